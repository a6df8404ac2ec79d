/- Knots: the function. The law: whether two units are in one knot. The law: two units are in one knot exactly if each one is older than the other one. -/
import Derived.Test.YtmnhkbhdfkebmaaGreatY12

set_option linter.unusedSimpArgs false
set_option linter.unusedVariables false

namespace Go.Y
open Go.K Go.Proofs
set_option linter.unusedSimpArgs false
set_option linter.unusedVariables false
set_option maxRecDepth 10000

variable {X : CallFn}

theorem u31 : Tryz.prog.underlying 31 = some (.slice 27) := by kernel_rfl
theorem s27 : szC Tryz.prog 27 = some 1 := by kernel_rfl
theorem z27 : zeroC Tryz.prog 27 = some [.nilSlice] := by kernel_rfl
theorem i27 : ∃ i : TypeInfo, Tryz.prog.info? 27 = some i ∧ i.size = 1 ∧ i.bytes = 24 := info_of (by kernel_rfl)
theorem g27 : isAggC Tryz.prog 27 = some false := by kernel_rfl
theorem bs31 (x : Operand) (ρ : Operand → Option CV) : allocC Tryz.prog (.buildSlice 31 1 #[(0, x)]) ρ = (ρ x).bind fun v => if v.cells.length = 0 + 1 then some (.cells v.cells 27 none, fun b => .slice b 0 1 (.exact 1)) else none :=
  allocC_one u31 s27 z27 rfl (by omega) x ρ

/-- The knots that are made. -/
structure KO (B H : Heap) (vo : CV) (fo : Nat) (kvs : List CV) (ks : List (List Nat)) : Prop where
  o : Own H fo 1 27 vo kvs
  no : vo ≠ .nilSlice → B.next ≤ fo
  len : kvs.length = ks.length
  k : ∀ (j : Nat) (kv : CV) (k : List Nat), kvs[j]? = some kv → ks[j]? = some k → ∃ f, Own H f 1 9 kv (k.map nm) ∧ (kv ≠ .nilSlice → vo ≠ .nilSlice → f ≠ fo)
  ok : HOk H
  ext : Ext B.next B H
theorem KO.step {B H H' : Heap} {vo : CV} {fo : Nat} {kvs : List CV} {ks : List (List Nat)} (h : KO B H vo fo kvs ks) (hx : Ext H.next H H') (hk : HOk H') : KO B H' vo fo kvs ks :=
  ⟨h.o.ext hx h.o.lt, h.no, h.len, fun j kv k h1 h2 => by
    obtain ⟨f, ho, hf⟩ := h.k j kv k h1 h2
    exact ⟨f, ho.ext hx ho.lt, hf⟩, hk, h.ext.trans (hx.le h.ext.1)⟩

theorem ko_app {B H G : Heap} {vo a b : CV} {fo f g : Nat} {kvs : List CV} {ks : List (List Nat)} {xs ys : List Nat} (h : KO B H vo fo kvs ks) (hW : Two H G a b f g xs ys) (hl : kvs.length < 1000) :
    ∃ vo' G' fo', appendC Tryz.prog 31 31 ((G.skip 1).put G.next (.cells [a] 27 none)) vo (.slice G.next 0 1 (.exact 1)) = some (vo', G') ∧ KO B G' vo' fo' (kvs ++ [a]) (ks ++ [xs]) ∧ Has G' 1 9 b (ys.map nm) := by
  have hG := h.step hW.ext hW.ok
  generalize hG1 : (G.skip 1).put G.next (.cells [a] 27 none) = G1
  have x1 : Ext G.next G G1 := by rw [← hG1]; exact Ext.skip.trans (Ext.put (Nat.le_refl _))
  have k1 : HOk G1 := by rw [← hG1]; exact Hok.put rfl (Hok.skip 1 hW.ok)
  have n1 : G1.next = G.next + 1 := by rw [← hG1]; rfl
  have h1 := hG.step x1 k1
  have hW1 := hW.step x1 k1
  obtain ⟨it, i1, i2, i3⟩ := i27
  obtain ⟨hc1, hc2⟩ := own_sl hW.a
  obtain ⟨vo', G', fo', hap, ho, hk, hn, hx, hf, hf1, hf2, keep⟩ := own_app (ts := 31) (c := G.next) (y := a) (n := B.next) h1.o k1 h1.ext.1 h1.no u31 i1 i2 (by omega) z27 (by omega) (by rw [← hG1, Heap.get_put, if_pos rfl]) hc1 hc2 hl
  have hvo : vo ≠ .nilSlice → fo < H.next := fun hv => own_fam h.o hv
  have kept : ∀ {v : CV} {f : Nat} {vs : List CV}, Own G1 f 1 9 v vs → (v ≠ .nilSlice → vo ≠ .nilSlice → f ≠ fo) → Own G' f 1 9 v vs := by
    intro v f vs hv hne
    by_cases e : v = .nilSlice
    · refine ⟨hv.1, ?_⟩
      rcases hv.2 with h | ⟨_, _, e', _⟩
      · exact .inl h
      · rw [e] at e'; cases e'
    · refine own_keep hv (by omega) fun b o p hb ho hp => keep b o hb ho fun hv' g' p' hg' => ?_
      rw [hp] at hg'
      simp only [Option.some.injEq, Prod.mk.injEq] at hg'
      have := hne e hv'
      omega
  have newf : ∀ {v : CV} {f : Nat} {vs : List CV}, Own G1 f 1 9 v vs → (v ≠ .nilSlice → H.next ≤ f) → v ≠ .nilSlice → f ≠ fo' := by
    intro v f vs hv hle e
    by_cases hv' : vo = .nilSlice
    · rw [hf1 hv']
      have := own_fam hv e
      omega
    · rw [hf2 hv']
      have := hvo hv'
      have := hle e
      omega
  refine ⟨vo', G', fo', hap, ⟨ho, fun _ => hf, by simp [h.len], fun j kv k e1 e2 => ?_, hk, h1.ext.trans hx⟩, (kept hW1.b fun e hv => by have := hvo hv; have := hW1.nb e; omega).has⟩
  rcases Nat.lt_trichotomy j kvs.length with hj | hj | hj
  · rw [List.getElem?_append_left hj] at e1
    rw [List.getElem?_append_left (by rw [← h.len]; exact hj)] at e2
    obtain ⟨f', o1, o2⟩ := h1.k j kv k e1 e2
    refine ⟨f', kept o1 o2, fun e _ => ?_⟩
    by_cases hv' : vo = .nilSlice
    · have : kvs = [] := by
        rcases h.o.2 with ⟨_, e⟩ | ⟨_, _, e, _⟩
        · exact e
        · rw [hv'] at e; cases e
      rw [this] at hj; simp at hj
    · rw [hf2 hv']; exact o2 e hv'
  · subst hj
    rw [List.getElem?_append_right (Nat.le_refl _), Nat.sub_self] at e1
    rw [List.getElem?_append_right (by rw [h.len]; exact Nat.le_refl _), h.len, Nat.sub_self] at e2
    simp only [List.getElem?_cons_zero, Option.some.injEq] at e1 e2
    subst e1; subst e2
    exact ⟨f, kept hW1.a fun e hv => by have := hvo hv; have := hW1.na e; omega, fun e _ => newf hW1.a hW1.na e⟩
  · rw [List.getElem?_eq_none (by simp; omega)] at e1
    cases e1

theorem kc_loop (hX21 : X 21 = fun _ _ => none) {l : CV} {rs : Rels} {B : Heap} {bg bg2 : Nat} (hr : rs.length ≤ 30) (hR : ∀ r ∈ rs, Right r) (hl : Has B 3 41 l (rs.map relCV)) (hg : B.get bg = some (.cells [l, .map bg2] 80 none)) (lg : bg < B.next) :
    ∀ (n : Nat) (all : List Nat) (env : Env) (H : Heap) (v vo : CV) (fo : Nat) (kvs : List CV) (ks : List (List Nat)), all.length ≤ n → (∀ x ∈ all, x < 8) → ks.length + all.length ≤ 100 → Has H 1 9 v (all.map nm) → KO B H vo fo kvs ks →
      env.get 5 = some (.ptr bg 0) → env.get 9 = some v → env.get 11 = some vo →
      ∃ env' H' vo' fo' kvs', go Tryz.prog X 120 (sub (codeOf Tryz.f9) [true,true,true,true,true,true,true,true,true,false,false]) env H = some (.exit 4, env', H') ∧ KO B H' vo' fo' kvs' (ks ++ knotsF rs n all) ∧ env'.get 11 = some vo' := by
  have hcode : sub (codeOf Tryz.f9) [true,true,true,true,true,true,true,true,true,false,false] = .loop (.seq (.seq (sub (codeOf Tryz.f9) [true,true,true,true,true,true,true,true,true,false,false,false,false,false]) (.cond (.tmp 60) .skip (.exit 4))) (.block 5 (.seq (sub (codeOf Tryz.f9) [true,true,true,true,true,true,true,true,true,false,false,false,true,false,false]) (.seq (sub (codeOf Tryz.f9) [true,true,true,true,true,true,true,true,true,false,false,false,true,false,true,false]) (.seq (.seq (sub (codeOf Tryz.f9) [true,true,true,true,true,true,true,true,true,false,false,false,true,false,true,true,false,false]) (.block 6 (sub (codeOf Tryz.f9) [true,true,true,true,true,true,true,true,true,false,false,false,true,false,true,true,false,true,false]))) (.seq (sub (codeOf Tryz.f9) [true,true,true,true,true,true,true,true,true,false,false,false,true,false,true,true,true,false]) (.seq (.seq (sub (codeOf Tryz.f9) [true,true,true,true,true,true,true,true,true,false,false,false,true,false,true,true,true,true,false,false]) (.block 8 (sub (codeOf Tryz.f9) [true,true,true,true,true,true,true,true,true,false,false,false,true,false,true,true,true,true,false,true,false]))) (.seq (sub (codeOf Tryz.f9) [true,true,true,true,true,true,true,true,true,false,false,false,true,false,true,true,true,true,true,false]) (sub (codeOf Tryz.f9) [true,true,true,true,true,true,true,true,true,false,false,false,true,false,true,true,true,true,true,true]))))))))) := rfl
  intro n
  induction n with
  | zero =>
    intro all env H v vo fo kvs ks hn hlt hlen hv hK h5 h9 h11
    have : all = [] := List.length_eq_zero_iff.1 (by omega)
    subst this
    have hlv := hv.len (P := Tryz.prog) u30
    have ga : ∃ e, go Tryz.prog X 120 (sub (codeOf Tryz.f9) [true,true,true,true,true,true,true,true,true,false,false,false,false,false]) env H = some (.normal, e, H) ∧ e.get 60 = some (.bool false) ∧ ∀ t, t < 58 → e.get t = env.get t := by
      simp only [codeOf, Tryz.f9, sub, go_seq, go_region, opsSeq_step, opsSeq_guard, guardStep_true, guardStep_false, guardVal, opsSeq_nil, afterStep_some, afterStep_none, stepC, kindOf, quietC, evC, Nat.reduceLT, Tr.get_set, if_true, if_false, Nat.reduceEqDiff, Option.map_some, Option.bind_some, List.getElem?_toArray, List.getElem?_cons_zero, List.getElem?_cons_succ, ofVal, decide_true, decide_false, BEq.rfl, andThen_normal, andThen_exit, andThen_ret, inBlock_normal, inBlock_ret, go_skip, go_exit, go_ret, loudStep, isCall, loudC, targetC, evs, evParts, mapO, List.nil_append, List.append_nil, List.cons_append, loadC, Heap.skip_get, Heap.get_put, Heap.skip_next, Heap.put_next, h9, hlv, bin_gtr, List.map_nil, List.length_nil]
      refine ⟨_, rfl, by simp only [Tr.get_set, if_true]; rfl, fun t ht => ?_⟩
      simp only [Tr.get_set, show t ≠ 58 by omega, show t ≠ 59 by omega, show t ≠ 60 by omega, if_false]
    obtain ⟨e1, ga, a60, aq⟩ := ga
    refine ⟨e1, H, vo, fo, kvs, ?_, by simpa [knotsF] using hK, (aq 11 (by omega)).trans h11⟩
    rw [hcode, go_loop, go_seq, go_seq, ga, andThen_normal, go_cond _ _ _ (v := false) (by simp only [evC, a60]), if_neg (by simp), go_exit, andThen_exit, andThen_exit]
  | succ n ih =>
    intro all env H v vo fo kvs ks hn hlt hlen hv hK h5 h9 h11
    have hlv := hv.len (P := Tryz.prog) u30
    rw [List.length_map] at hlv
    have ga : ∃ e, go Tryz.prog X 120 (sub (codeOf Tryz.f9) [true,true,true,true,true,true,true,true,true,false,false,false,false,false]) env H = some (.normal, e, H) ∧ e.get 60 = some (.bool (decide (0 < (all.length : Int)))) ∧ ∀ t, t < 58 → e.get t = env.get t := by
      simp only [codeOf, Tryz.f9, sub, go_seq, go_region, opsSeq_step, opsSeq_guard, guardStep_true, guardStep_false, guardVal, opsSeq_nil, afterStep_some, afterStep_none, stepC, kindOf, quietC, evC, Nat.reduceLT, Tr.get_set, if_true, if_false, Nat.reduceEqDiff, Option.map_some, Option.bind_some, List.getElem?_toArray, List.getElem?_cons_zero, List.getElem?_cons_succ, ofVal, decide_true, decide_false, BEq.rfl, andThen_normal, andThen_exit, andThen_ret, inBlock_normal, inBlock_ret, go_skip, go_exit, go_ret, loudStep, isCall, loudC, targetC, evs, evParts, mapO, List.nil_append, List.append_nil, List.cons_append, loadC, Heap.skip_get, Heap.get_put, Heap.skip_next, Heap.put_next, h9, hlv, bin_gtr]
      refine ⟨_, rfl, by simp only [Tr.get_set, if_true], fun t ht => ?_⟩
      simp only [Tr.get_set, show t ≠ 58 by omega, show t ≠ 59 by omega, show t ≠ 60 by omega, if_false]
    obtain ⟨e1, ga, a60, aq⟩ := ga
    cases all with
    | nil =>
      refine ⟨e1, H, vo, fo, kvs, ?_, by simpa [knotsF] using hK, (aq 11 (by omega)).trans h11⟩
      rw [hcode, go_loop, go_seq, go_seq, ga, andThen_normal, go_cond _ _ _ (v := false) (by simp only [evC, a60]; rfl), if_neg (by simp), go_exit, andThen_exit, andThen_exit]
    | cons u0 t =>
      have hb : KB H l rs bg bg2 v (u0 :: t) := ⟨hl.ext hK.ext hl.lt, hK.ext.2 _ _ lg hg, Nat.lt_of_lt_of_le lg hK.ext.1, hv, hlt⟩
      have hu8 := hlt u0 (List.mem_cons_self ..)
      obtain ⟨b', off', cs', fam', lb', _, hidx', hget', _, hcell'⟩ := hv.at (P := Tryz.prog) (t := 27) u30 s9 (i := 0) (by simp)
      rw [List.getElem_map] at hcell'
      have c0' : cs'[off']? = some (nm u0) := hcell' 0 _ rfl
      have hidx0 : indexAddrC Tryz.prog 27 v (.int .i64 0) = some (.ptr b' off') := hidx' _
      obtain ⟨bt, ds, H2, d1, d2, d3, d4, d5, d6, d7⟩ := distances_ok (X := X) hX21 (t := u0) hr hR hu8 hb.hl hb.hg hb.lg hK.ok
      generalize hH3 : (H2.skip 1).put H2.next (.map [] 0) = H3
      have x3 : Ext H2.next H2 H3 := by rw [← hH3]; exact Ext.skip.trans (Ext.put (Nat.le_refl _))
      have k3 : HOk H3 := by rw [← hH3]; exact Hok.put rfl (Hok.skip 1 d5)
      have n3 : H3.next = H2.next + 1 := by rw [← hH3]; rfl
      have m3 : H3.get H2.next = some (.map [] 0) := by rw [← hH3, Heap.get_put, if_pos rfl]
      have hb2 := hb.ext d6
      have hlv3 := (hb2.ext x3).hv.len (P := Tryz.prog) u30
      rw [List.length_map] at hlv3
      have gb : ∃ e, go Tryz.prog X 120 (.seq (sub (codeOf Tryz.f9) [true,true,true,true,true,true,true,true,true,false,false,false,true,false,false]) (.seq (sub (codeOf Tryz.f9) [true,true,true,true,true,true,true,true,true,false,false,false,true,false,true,false]) (sub (codeOf Tryz.f9) [true,true,true,true,true,true,true,true,true,false,false,false,true,false,true,true,false,false]))) e1 H = some (.normal, e, H3) ∧ e.get 12 = some (.map bt) ∧ e.get 13 = some (.map H2.next) ∧ e.get 67 = some v ∧ e.get 68 = some (.int .i64 ((u0 :: t).length : Nat)) ∧ e.get 69 = some (.int .i64 (0 : Nat)) ∧ ∀ t, t < 12 → e.get t = e1.get t := by
        simp only [codeOf, Tryz.f9, sub, go_seq, go_region, opsSeq_step, opsSeq_guard, guardStep_true, guardStep_false, guardVal, opsSeq_nil, afterStep_some, afterStep_none, stepC, kindOf, quietC, evC, Nat.reduceLT, Tr.get_set, if_true, if_false, Nat.reduceEqDiff, Option.map_some, Option.bind_some, List.getElem?_toArray, List.getElem?_cons_zero, List.getElem?_cons_succ, ofVal, decide_true, decide_false, BEq.rfl, andThen_normal, andThen_exit, andThen_ret, inBlock_normal, inBlock_ret, go_skip, go_exit, go_ret, loudStep, isCall, loudC, targetC, evs, evParts, mapO, List.nil_append, List.append_nil, List.cons_append, loadC, Heap.skip_get, Heap.get_put, Heap.skip_next, Heap.put_next, (aq 5 (by omega)).trans h5, (aq 9 (by omega)).trans h9, hidx0, g9, hget', c0', d1, mkm, hH3, hlv3]
        refine ⟨_, rfl, by simp only [Tr.get_set, Nat.reduceEqDiff, if_false, if_true], by simp only [Tr.get_set, Nat.reduceEqDiff, if_false, if_true], by simp only [Tr.get_set, Nat.reduceEqDiff, if_false, if_true], by simp only [Tr.get_set, Nat.reduceEqDiff, if_false, if_true], by simp only [Tr.get_set, if_true]; rfl, fun t ht => ?_⟩
        simp only [Tr.get_set, show t ≠ 12 by omega, show t ≠ 13 by omega, show t ≠ 61 by omega, show t ≠ 62 by omega, show t ≠ 63 by omega, show t ≠ 64 by omega, show t ≠ 65 by omega, show t ≠ 66 by omega, show t ≠ 67 by omega, show t ≠ 68 by omega, show t ≠ 69 by omega, if_false]
      obtain ⟨e2, gb, b12, b13, b67, b68, b69, bq⟩ := gb
      have hq2 : ∀ t, t < 12 → e2.get t = env.get t := fun t ht => (bq t ht).trans (aq t (by omega))
      have hlen' : (u0 :: t).length ≤ 100 := by omega
      obtain ⟨e3, G, es, gc, hF, kG, xG, lG, cq⟩ := kc_from (X := X) hX21 hr hR hb2 hlen' x3 k3 (Nat.le_refl _) (by omega) m3 ((hq2 5 (by omega)).trans h5) ((hq2 9 (by omega)).trans h9) b13 b67 b68 b69
      have hbG := hb2.ext xG
      have hlvG := hbG.hv.len (P := Tryz.prog) u30
      rw [List.length_map] at hlvG
      have gd : ∃ e, go Tryz.prog X 120 (.seq (sub (codeOf Tryz.f9) [true,true,true,true,true,true,true,true,true,false,false,false,true,false,true,true,true,false]) (sub (codeOf Tryz.f9) [true,true,true,true,true,true,true,true,true,false,false,false,true,false,true,true,true,true,false,false])) e3 G = some (.normal, e, G) ∧ e.get 18 = some .nilSlice ∧ e.get 19 = some .nilSlice ∧ e.get 87 = some v ∧ e.get 88 = some (.int .i64 ((u0 :: t).length : Nat)) ∧ e.get 89 = some (.int .i64 (0 : Nat)) ∧ ∀ t, t < 15 → e.get t = e3.get t := by
        simp only [codeOf, Tryz.f9, sub, go_seq, go_region, opsSeq_step, opsSeq_guard, guardStep_true, guardStep_false, guardVal, opsSeq_nil, afterStep_some, afterStep_none, stepC, kindOf, quietC, evC, Nat.reduceLT, Tr.get_set, if_true, if_false, Nat.reduceEqDiff, Option.map_some, Option.bind_some, List.getElem?_toArray, List.getElem?_cons_zero, List.getElem?_cons_succ, ofVal, decide_true, decide_false, BEq.rfl, andThen_normal, andThen_exit, andThen_ret, inBlock_normal, inBlock_ret, go_skip, go_exit, go_ret, loudStep, isCall, loudC, targetC, evs, evParts, mapO, List.nil_append, List.append_nil, List.cons_append, loadC, Heap.skip_get, Heap.get_put, Heap.skip_next, Heap.put_next, (cq 9 (by omega)).trans ((hq2 9 (by omega)).trans h9), hlvG]
        refine ⟨_, rfl, by simp only [Tr.get_set, Nat.reduceEqDiff, if_false, if_true], by simp only [Tr.get_set, Nat.reduceEqDiff, if_false, if_true], by simp only [Tr.get_set, Nat.reduceEqDiff, if_false, if_true], by simp only [Tr.get_set, Nat.reduceEqDiff, if_false, if_true], by simp only [Tr.get_set, if_true]; rfl, fun t ht => ?_⟩
        simp only [Tr.get_set, show t ≠ 18 by omega, show t ≠ 19 by omega, show t ≠ 87 by omega, show t ≠ 88 by omega, show t ≠ 89 by omega, if_false]
      obtain ⟨e4, gd, c18, c19, c87, c88, c89, dq⟩ := gd
      obtain ⟨e5, G5, a, b, fa, fb, ge, hW, f18, f19, eq⟩ := kc_rest (X := X) hbG hlen' kG hF lG (d2.ext xG d3) (Nat.lt_of_lt_of_le d3 xG.1) (fun u => d4 u) d7 ((dq 12 (by omega)).trans ((cq 12 (by omega)).trans b12)) ((dq 13 (by omega)).trans ((cq 13 (by omega)).trans b13)) c18 c19 c87 c88 c89
      have hKG := (hK.step d6 d5).step xG kG
      obtain ⟨vo', G6, fo', hap, hK6, hv6⟩ := ko_app hKG hW (by rw [hK.len]; omega)
      have hq5 : ∀ t, t < 12 → e5.get t = env.get t := fun t ht => (eq t (by omega)).trans ((dq t (by omega)).trans ((cq t (by omega)).trans (hq2 t ht)))
      obtain ⟨hc1, hc2⟩ := own_sl hW.a
      have gf : ∃ e, go Tryz.prog X 120 (.seq (sub (codeOf Tryz.f9) [true,true,true,true,true,true,true,true,true,false,false,false,true,false,true,true,true,true,true,false]) (sub (codeOf Tryz.f9) [true,true,true,true,true,true,true,true,true,false,false,false,true,false,true,true,true,true,true,true])) e5 G5 = some (.normal, e, G6) ∧ e.get 11 = some vo' ∧ e.get 9 = some b ∧ e.get 5 = e5.get 5 := by
        simp only [codeOf, Tryz.f9, sub, go_seq, go_region, opsSeq_step, opsSeq_guard, guardStep_true, guardStep_false, guardVal, opsSeq_nil, afterStep_some, afterStep_none, stepC, kindOf, quietC, evC, Nat.reduceLT, Tr.get_set, if_true, if_false, Nat.reduceEqDiff, Option.map_some, Option.bind_some, List.getElem?_toArray, List.getElem?_cons_zero, List.getElem?_cons_succ, ofVal, decide_true, decide_false, BEq.rfl, andThen_normal, andThen_exit, andThen_ret, inBlock_normal, inBlock_ret, go_skip, go_exit, go_ret, loudStep, isCall, loudC, targetC, evs, evParts, mapO, List.nil_append, List.append_nil, List.cons_append, loadC, Heap.skip_get, Heap.get_put, Heap.skip_next, Heap.put_next, (hq5 11 (by omega)).trans h11, f18, f19, bs31, hc1, List.length_cons, List.length_nil, Nat.reduceAdd, hap]
        refine ⟨_, rfl, by simp only [Tr.get_set, Nat.reduceEqDiff, if_false, if_true], by simp only [Tr.get_set, if_true], by simp only [Tr.get_set, Nat.reduceEqDiff, if_false]⟩
      obtain ⟨e6, gf, g11, g9', g5⟩ := gf
      have hself : both rs u0 u0 = true := both_iff.2 ⟨.refl u0, .refl u0⟩
      have hlr : ((u0 :: t).filter fun x => !both rs x u0).length ≤ t.length := by
        rw [List.filter_cons, hself]
        simp only [Bool.not_true, Bool.false_eq_true, if_false]
        exact List.length_filter_le _ _
      simp only [List.length_cons] at hn hlen
      obtain ⟨e7, H7, vo7, fo7, kvs7, gg, hK7, r⟩ := ih _ e6 G6 b vo' fo' (kvs ++ [a]) _ (by omega) (fun x hx => hlt x (List.mem_filter.1 hx).1) (by simp only [List.length_append, List.length_singleton]; omega) hv6 hK6 (g5.trans ((hq5 5 (by omega)).trans h5)) g9' g11
      refine ⟨e7, H7, vo7, fo7, kvs7, ?_, ?_, r⟩
      · rw [hcode, go_loop, ← hcode, go_seq, go_seq, ga, andThen_normal, go_cond _ _ _ (v := true) (by simp only [evC, a60]; rw [decide_eq_true (by simp)]), if_pos rfl, go_skip, andThen_normal, go_block, go_loop3, gb, andThen_normal, go_block, gc, inBlock_exit, if_pos rfl, andThen_normal, go_loop2, gd, andThen_normal, go_block, ge, inBlock_exit, if_pos rfl, andThen_normal, gf, inBlock_normal, andThen_normal]
        exact gg
      · rw [List.append_assoc] at hK7
        exact hK7

theorem knots_ok (hX : YX X) (hX18 : X 18 = fun _ _ => none) (hX19 : X 19 = fun _ _ => none) (hX37 : X 37 = fun _ _ => none) (hX21 : X 21 = fun _ _ => none) {l : CV} {rs : Rels} {H : Heap} (hr : rs.length ≤ 30) (hR : ∀ r ∈ rs, Right r) (hl : Has H 3 41 l (rs.map relCV)) (hk : HOk H) :
    ∃ vo fo kvs all H', knotX (go Tryz.prog X) 9 [l] H = some (.tuple [vo, .int .i64 0], H') ∧ KO H H' vo fo kvs (knotsF rs 100 all) ∧ (∀ a, a ∈ all ↔ Low rs a) ∧ all.length ≤ 100 := by
  obtain ⟨eA, HA, bm, bg, bg2, al, gA, h6, h5, h9, hKOK, hlow, hg, lg, xA⟩ := knotA_ok (X := X) hX hX18 hX19 hX37 hX21 hr hR hl hk
  have hmem : ∀ a, a ∈ msOf al ↔ Low rs a := fun a => (mem_msOf hKOK.m.lt).trans (hlow a)
  have hlt8 : ∀ x ∈ msOf al, x < 8 := fun x hx => by
    obtain ⟨r, hr', _, e⟩ := (hmem x).1 hx
    rw [← e]; exact (hR r hr').2.2.2.1
  have hlen100 : (msOf al).length ≤ 100 := by
    have := List.length_filter_le (fun x => decide (x ∈ keysOf al)) (List.range 100)
    rwa [List.length_range] at this
  have hst : Ext HA.next HA (hStar HA (msOf al)) ∧ HOk (hStar HA (msOf al)) ∧ Has (hStar HA (msOf al)) 1 9 (vStar HA (msOf al)) ((msOf al).map nm) := by
    unfold hStar vStar
    split
    · rename_i e
      rw [e]
      exact ⟨Ext.refl _ _, hKOK.ok, by simp, .inl ⟨rfl, rfl⟩⟩
    · rename_i e
      refine ⟨Ext.newF (Nat.le_refl _), Hok.newF (fun f' p' e => by simp only [CObj.fam, Option.some.injEq, Prod.mk.injEq] at e; omega) hKOK.ok, ?_⟩
      have ho : Own (HA.newF (.cells ((msOf al).map nm) 9 (some (HA.next, 0)))) HA.next 1 9 (.slice HA.next 0 (msOf al).length (.tail 1)) ((msOf al).map nm) := by
        refine ⟨fun x hx => by obtain ⟨y, _, rfl⟩ := List.mem_map.1 hx; rfl, .inr ⟨HA.next, 0, by rw [List.length_map], by simpa using e, Nat.lt_succ_self _, Nat.le_refl _, ?_⟩⟩
        rw [Heap.newF_get, if_pos rfl]
        have : ∀ l : List Nat, (l.map nm).flatMap CV.cells = l.map nm := fun l => by
          induction l with
          | nil => rfl
          | cons a t ih => rw [List.map_cons, List.flatMap_cons, ih]; rfl
        rw [this]
      exact ho.has
  obtain ⟨xS, kS, hvS⟩ := hst
  have x1 : Ext H.next H (hStar HA (msOf al)) := xA.trans (xS.le xA.1)
  have hlS := hl.ext x1 hl.lt
  have gB : ∃ e, go Tryz.prog X 120 (sub (codeOf Tryz.f9) [true,true,true,true,true,true,true,true,false]) (eStar (.ptr bg 0) (vStar HA (msOf al))) (hStar HA (msOf al)) = some (.normal, e, hStar HA (msOf al)) ∧ e.get 11 = some .nilSlice ∧ e.get 5 = some (.ptr bg 0) ∧ e.get 9 = some (vStar HA (msOf al)) := by
    simp only [codeOf, Tryz.f9, sub, go_seq, go_region, opsSeq_step, opsSeq_guard, guardStep_true, guardStep_false, guardVal, opsSeq_nil, afterStep_some, afterStep_none, stepC, kindOf, quietC, evC, Nat.reduceLT, Tr.get_set, if_true, if_false, Nat.reduceEqDiff, Option.map_some, Option.bind_some, List.getElem?_toArray, List.getElem?_cons_zero, List.getElem?_cons_succ, ofVal, decide_true, decide_false, BEq.rfl, andThen_normal, andThen_exit, andThen_ret, inBlock_normal, inBlock_ret, go_skip, go_exit, go_ret, loudStep, isCall, loudC, targetC, evs, evParts, mapO, List.nil_append, List.append_nil, List.cons_append, loadC, Heap.skip_get, Heap.get_put, Heap.skip_next, Heap.put_next, eStar]
    exact ⟨_, rfl, by simp only [Tr.get_set, if_true], by simp only [Tr.get_set, Nat.reduceEqDiff, if_false, if_true], by simp only [Tr.get_set, Nat.reduceEqDiff, if_false, if_true]⟩
  obtain ⟨e1, gB, b11, b5, b9⟩ := gB
  obtain ⟨e2, H2, vo, fo, kvs, gC, hK, c11⟩ := kc_loop (X := X) hX21 hr hR hlS (xS.2 _ _ lg hg) (Nat.lt_of_lt_of_le lg xS.1) 100 (msOf al) e1 (hStar HA (msOf al)) _ .nilSlice 0 [] [] hlen100 hlt8 (by simpa using hlen100) hvS
    ⟨⟨by simp, .inl ⟨rfl, rfl⟩⟩, fun h => absurd rfl h, rfl, fun j kv k h => by simp at h, kS, Ext.refl _ _⟩ b5 b9 b11
  rw [List.nil_append] at hK
  have hcode : knotC = .seq (sub (codeOf Tryz.f9) [true,true,true,true,true,true,true,true,false]) (.seq (.block 4 (sub (codeOf Tryz.f9) [true,true,true,true,true,true,true,true,true,false,false])) (.seq (sub (codeOf Tryz.f9) [true,true,true,true,true,true,true,true,true,true,false]) .ret)) := rfl
  have key : ∃ e, go Tryz.prog X 120 knotC (eStar (.ptr bg 0) (vStar HA (msOf al))) (hStar HA (msOf al)) = some (.ret, e, H2) ∧ e.get 2 = some vo ∧ e.get 3 = some (.int .i64 0) := by
    rw [go_code hcode, go_seq, gB, andThen_normal, go_seq, go_block, gC, inBlock_exit, if_pos rfl, andThen_normal]
    simp only [codeOf, Tryz.f9, sub, go_seq, go_region, opsSeq_step, opsSeq_guard, guardStep_true, guardStep_false, guardVal, opsSeq_nil, afterStep_some, afterStep_none, stepC, kindOf, quietC, evC, Nat.reduceLT, Tr.get_set, if_true, if_false, Nat.reduceEqDiff, Option.map_some, Option.bind_some, List.getElem?_toArray, List.getElem?_cons_zero, List.getElem?_cons_succ, ofVal, decide_true, decide_false, BEq.rfl, andThen_normal, andThen_exit, andThen_ret, inBlock_normal, inBlock_ret, go_skip, go_exit, go_ret, loudStep, isCall, loudC, targetC, evs, evParts, mapO, List.nil_append, List.append_nil, List.cons_append, loadC, Heap.skip_get, Heap.get_put, Heap.skip_next, Heap.put_next, c11]
    exact ⟨_, rfl, by simp only [Tr.get_set, Nat.reduceEqDiff, if_false, if_true], by simp only [Tr.get_set, if_true]⟩
  obtain ⟨e3, key, d2, d3⟩ := key
  refine ⟨vo, fo, kvs, msOf al, H2, ?_, ⟨hK.o, fun hv => Nat.le_trans x1.1 (hK.no hv), hK.len, hK.k, hK.ok, x1.trans (hK.ext.le x1.1)⟩, hmem, hlen100⟩
  have hres : resultsC Tryz.prog Tryz.f9.results.toList e3 H2 = some (.tuple [vo, .int .i64 0]) := results_two d2 d3
  have hal := alOf_ents (al := al) (k := 0) hKOK.m.lt
  have hkb := kokB_of hKOK
  unfold knotX
  simp only [beq_t rfl, List.length_cons, List.length_nil, Bool.and_self, gA]
  unfold knotR
  simp only [h6, h5, h9, hKOK.m.get, hkb, hal, key, hres, Option.map_some]
end Go.Y

namespace Go.Y
open Go.K Go.Proofs
set_option linter.unusedSimpArgs false
set_option linter.unusedVariables false
set_option maxRecDepth 10000

variable {X : CallFn}

theorem tmem_take {k : List Nat} {j a : Nat} (h : j < k.length) : decide (a ∈ k.take (j + 1)) = (decide (a ∈ k.take j) || decide (k[j] = a)) := by
  rw [List.take_add_one, List.getElem?_eq_getElem h, Option.toList_some, Bool.eq_iff_iff]
  simp only [List.mem_append, List.mem_singleton, decide_eq_true_eq, Bool.or_eq_true]
  exact or_congr Iff.rfl ⟨fun h => h.symm, fun h => h.symm⟩

/-- Whether one knot has both. -/
theorem lw_knot {env : Env} {H : Heap} {a b : Nat} {kv : CV} {k : List Nat} (hk : k.length ≤ 100) (hlt : ∀ x ∈ k, x < 100) (ha : a < 100) (hb : b < 100) (hv : Has H 1 9 kv (k.map nm))
    (h12 : env.get 12 = some (nm a)) (h14 : env.get 14 = some (nm b)) (h18 : env.get 18 = some (.bool false)) (h19 : env.get 19 = some (.bool false)) (h86 : env.get 86 = some kv) (h87 : env.get 87 = some (.int .i64 (k.length : Nat))) (h88 : env.get 88 = some (.int .i64 (0 : Nat))) :
    ∃ env', go Tryz.prog X 169 (sub (codeOf Tryz.f3) [true,true,true,true,true,true,true,true,false,true,false,false,true,true,false,false,true,true,false,false,true,true,false,false,true,true,false,true,false,false,true,true,false,false,true,true,false,true,false]) env H = some (.exit 6, env', H) ∧ env'.get 18 = some (.bool (decide (a ∈ k))) ∧ env'.get 19 = some (.bool (decide (b ∈ k))) ∧ ∀ t, t < 86 → t ≠ 18 → t ≠ 19 → t ≠ 21 → env'.get t = env.get t := by
  have hL := range_loop (P := Tryz.prog) (X := X) (nt := 169) (code := sub (codeOf Tryz.f3) [true,true,true,true,true,true,true,true,false,true,false,false,true,true,false,false,true,true,false,false,true,true,false,false,true,true,false,true,false,false,true,true,false,false,true,true,false,true,false]) (hd := sub (codeOf Tryz.f3) [true,true,true,true,true,true,true,true,false,true,false,false,true,true,false,false,true,true,false,false,true,true,false,false,true,true,false,true,false,false,true,true,false,false,true,true,false,true,false,false,false]) (body := sub (codeOf Tryz.f3) [true,true,true,true,true,true,true,true,false,true,false,false,true,true,false,false,true,true,false,false,true,true,false,false,true,true,false,true,false,false,true,true,false,false,true,true,false,true,false,false,true,true,false,false]) (inc := sub (codeOf Tryz.f3) [true,true,true,true,true,true,true,true,false,true,false,false,true,true,false,false,true,true,false,false,true,true,false,false,true,true,false,true,false,false,true,true,false,false,true,true,false,true,false,false,true,true,true]) (ti := 88) (tn := 87) (tc := 89) (tx := 104) (e := 6) (b := 7) rfl (by omega)
    (fun env H i n h1 h2 => by simp only [codeOf, Tryz.f3, sub, go_seq, go_region, opsSeq_step, opsSeq_guard, guardStep_true, guardStep_false, guardVal, opsSeq_nil, afterStep_some, afterStep_none, stepC, kindOf, quietC, evC, Nat.reduceLT, Tr.get_set, if_true, if_false, Nat.reduceEqDiff, Option.map_some, Option.bind_some, List.getElem?_toArray, List.getElem?_cons_zero, List.getElem?_cons_succ, ofVal, decide_true, decide_false, BEq.rfl, andThen_normal, andThen_exit, andThen_ret, inBlock_normal, inBlock_ret, go_skip, go_exit, go_ret, loudStep, isCall, loudC, targetC, evs, evParts, mapO, List.nil_append, List.append_nil, List.cons_append, loadC, Heap.skip_get, Heap.get_put, Heap.skip_next, Heap.put_next, h1, h2, bin_lss]) (fun env H i h1 hw => by simp only [codeOf, Tryz.f3, sub, go_seq, go_region, opsSeq_step, opsSeq_guard, guardStep_true, guardStep_false, guardVal, opsSeq_nil, afterStep_some, afterStep_none, stepC, kindOf, quietC, evC, Nat.reduceLT, Tr.get_set, if_true, if_false, Nat.reduceEqDiff, Option.map_some, Option.bind_some, List.getElem?_toArray, List.getElem?_cons_zero, List.getElem?_cons_succ, ofVal, decide_true, decide_false, BEq.rfl, andThen_normal, andThen_exit, andThen_ret, inBlock_normal, inBlock_ret, go_skip, go_exit, go_ret, loudStep, isCall, loudC, targetC, evs, evParts, mapO, List.nil_append, List.append_nil, List.cons_append, loadC, Heap.skip_get, Heap.get_put, Heap.skip_next, Heap.put_next, h1, bin_add, hw]) (by omega) (n := k.length) (by omega)
    (fun j e G => (∀ t, t < 87 → t ≠ 18 → t ≠ 19 → t ≠ 21 → e.get t = env.get t) ∧ e.get 18 = some (.bool (decide (a ∈ k.take j))) ∧ e.get 19 = some (.bool (decide (b ∈ k.take j))) ∧ G = H) (fun _ _ => False)
    (fun j e G s w hs ⟨q, q18, q19, r⟩ => ⟨fun t ht n1 n2 n3 => by rcases hs with rfl | rfl | rfl <;> (rw [Tr.get_set, if_neg (by omega)]; exact q t ht n1 n2 n3), by rcases hs with rfl | rfl | rfl <;> simp only [Tr.get_set, Nat.reduceEqDiff, if_false, q18], by rcases hs with rfl | rfl | rfl <;> simp only [Tr.get_set, Nat.reduceEqDiff, if_false, q19], r⟩)
    (fun j e G hj ⟨q, q18, q19, hG⟩ h1 h2 => by
      left
      subst hG
      obtain ⟨bb, off, cs, fam, lb, _, hidx, hget, _, hcell⟩ := hv.at (P := Tryz.prog) (t := 27) u30 s9 (i := j) (by simpa using hj)
      rw [List.getElem_map] at hcell
      have c0 : cs[off]? = some (nm k[j]) := hcell 0 _ rfl
      have hx8 := hlt _ (List.getElem_mem hj)
      have q86 := (q 86 (by omega) (by omega) (by omega) (by omega)).trans h86
      have q12 := (q 12 (by omega) (by omega) (by omega) (by omega)).trans h12
      have q14 := (q 14 (by omega) (by omega) (by omega) (by omega)).trans h14
      have ea := tmem_take (a := a) hj
      have eb := tmem_take (a := b) hj
      have ga : ∃ e2, go Tryz.prog X 169 (sub (codeOf Tryz.f3) [true,true,true,true,true,true,true,true,false,true,false,false,true,true,false,false,true,true,false,false,true,true,false,false,true,true,false,true,false,false,true,true,false,false,true,true,false,true,false,false,true,true,false,false]) e G = some (.normal, e2, G) ∧ e2.get 18 = some (.bool (decide (a ∈ k.take (j + 1)))) ∧ e2.get 19 = some (.bool (decide (b ∈ k.take (j + 1)))) ∧ ∀ t, t < 89 → t ≠ 18 → t ≠ 19 → t ≠ 21 → e2.get t = e.get t := by
        rw [ea, eb]
        cases hA : decide (a ∈ k.take j) <;> cases hB : decide (b ∈ k.take j)
        all_goals
          rw [hA] at q18
          rw [hB] at q19
          simp only [codeOf, Tryz.f3, sub, go_seq, go_region, opsSeq_step, opsSeq_guard, guardStep_true, guardStep_false, guardVal, opsSeq_nil, afterStep_some, afterStep_none, stepC, kindOf, quietC, evC, Nat.reduceLT, Tr.get_set, if_true, if_false, Nat.reduceEqDiff, Option.map_some, Option.bind_some, List.getElem?_toArray, List.getElem?_cons_zero, List.getElem?_cons_succ, ofVal, decide_true, decide_false, BEq.rfl, andThen_normal, andThen_exit, andThen_ret, inBlock_normal, inBlock_ret, go_skip, go_exit, go_ret, loudStep, isCall, loudC, targetC, evs, evParts, mapO, List.nil_append, List.append_nil, List.cons_append, loadC, Heap.skip_get, Heap.get_put, Heap.skip_next, Heap.put_next, h1, q86, hidx, g9, hget, c0, q18, q19, q12, q14, nm_eql hx8 ha, nm_eql hx8 hb, bft, btf]
          refine ⟨_, rfl, by simp only [Tr.get_set, Nat.reduceEqDiff, if_false, if_true, Bool.false_or, Bool.true_or], by simp only [Tr.get_set, if_true, Bool.false_or, Bool.true_or], fun t ht n1 n2 n3 => ?_⟩
          simp only [Tr.get_set, n1, n2, n3, show t ≠ 90 by omega, show t ≠ 91 by omega, show t ≠ 92 by omega, show t ≠ 93 by omega, show t ≠ 94 by omega, show t ≠ 95 by omega, show t ≠ 96 by omega, show t ≠ 97 by omega, show t ≠ 98 by omega, show t ≠ 99 by omega, show t ≠ 100 by omega, show t ≠ 101 by omega, show t ≠ 102 by omega, show t ≠ 103 by omega, if_false]
      obtain ⟨e2, ga, a18, a19, aq⟩ := ga
      exact ⟨.normal, e2, G, ga, .inl rfl, ⟨fun t ht n1 n2 n3 => (aq t (by omega) n1 n2 n3).trans (q t ht n1 n2 n3), a18, a19, rfl⟩, (aq 88 (by omega) (by omega) (by omega) (by omega)).trans h1, (aq 87 (by omega) (by omega) (by omega) (by omega)).trans h2⟩)
  rcases hL k.length 0 env H (by omega) ⟨fun _ _ _ _ _ => rfl, by simpa using h18, by simpa using h19, rfl⟩ h88 h87 with ⟨e2, G, g, q, q18, q19, rfl⟩ | ⟨_, _, _, ff⟩
  · rw [List.take_length] at q18 q19
    exact ⟨e2, g, q18, q19, fun t ht n1 n2 n3 => q t (by omega) n1 n2 n3⟩
  · exact ff.elim

/-- Whether some knot has both. -/
def inOne (ks : List (List Nat)) (a b : Nat) : Bool := ks.any fun k => decide (a ∈ k) && decide (b ∈ k)
theorem inOne_iff {ks : List (List Nat)} {a b : Nat} : inOne ks a b = true ↔ ∃ k ∈ ks, a ∈ k ∧ b ∈ k := by simp [inOne]
theorem inOne_take {ks : List (List Nat)} {j a b : Nat} (h : j < ks.length) : inOne (ks.take (j + 1)) a b = (inOne (ks.take j) a b || (decide (a ∈ ks[j]) && decide (b ∈ ks[j]))) := by
  rw [List.take_add_one, List.getElem?_eq_getElem h, Option.toList_some]
  simp only [inOne, List.any_append, List.any_cons, List.any_nil, Bool.or_false]

theorem lw_knots {B : Heap} {env : Env} {H : Heap} {a b fo : Nat} {vo : CV} {kvs : List CV} {ks : List (List Nat)} (hlen : ks.length ≤ 100) (hk : ∀ k ∈ ks, k.length ≤ 100) (hlt : ∀ k ∈ ks, ∀ x ∈ k, x < 100) (ha : a < 100) (hb : b < 100) (hK : KO B H vo fo kvs ks)
    (h12 : env.get 12 = some (nm a)) (h14 : env.get 14 = some (nm b)) (h15 : env.get 15 = some (.bool false)) (h80 : env.get 80 = some vo) (h81 : env.get 81 = some (.int .i64 (ks.length : Nat))) (h82 : env.get 82 = some (.int .i64 (0 : Nat))) :
    ∃ env', go Tryz.prog X 169 (sub (codeOf Tryz.f3) [true,true,true,true,true,true,true,true,false,true,false,false,true,true,false,false,true,true,false,false,true,true,false,false,true,true,false,true,false]) env H = some (.exit 4, env', H) ∧ env'.get 15 = some (.bool (inOne ks a b)) ∧ ∀ t, t < 80 → t ≠ 15 → t ≠ 17 → t ≠ 18 → t ≠ 19 → t ≠ 21 → env'.get t = env.get t := by
  have hL := range_loop (P := Tryz.prog) (X := X) (nt := 169) (code := sub (codeOf Tryz.f3) [true,true,true,true,true,true,true,true,false,true,false,false,true,true,false,false,true,true,false,false,true,true,false,false,true,true,false,true,false]) (hd := sub (codeOf Tryz.f3) [true,true,true,true,true,true,true,true,false,true,false,false,true,true,false,false,true,true,false,false,true,true,false,false,true,true,false,true,false,false,false]) (body := sub (codeOf Tryz.f3) [true,true,true,true,true,true,true,true,false,true,false,false,true,true,false,false,true,true,false,false,true,true,false,false,true,true,false,true,false,false,true,true,false,false]) (inc := sub (codeOf Tryz.f3) [true,true,true,true,true,true,true,true,false,true,false,false,true,true,false,false,true,true,false,false,true,true,false,false,true,true,false,true,false,false,true,true,true]) (ti := 82) (tn := 81) (tc := 83) (tx := 112) (e := 4) (b := 5) rfl (by omega)
    (fun env H i n h1 h2 => by simp only [codeOf, Tryz.f3, sub, go_seq, go_region, opsSeq_step, opsSeq_guard, guardStep_true, guardStep_false, guardVal, opsSeq_nil, afterStep_some, afterStep_none, stepC, kindOf, quietC, evC, Nat.reduceLT, Tr.get_set, if_true, if_false, Nat.reduceEqDiff, Option.map_some, Option.bind_some, List.getElem?_toArray, List.getElem?_cons_zero, List.getElem?_cons_succ, ofVal, decide_true, decide_false, BEq.rfl, andThen_normal, andThen_exit, andThen_ret, inBlock_normal, inBlock_ret, go_skip, go_exit, go_ret, loudStep, isCall, loudC, targetC, evs, evParts, mapO, List.nil_append, List.append_nil, List.cons_append, loadC, Heap.skip_get, Heap.get_put, Heap.skip_next, Heap.put_next, h1, h2, bin_lss]) (fun env H i h1 hw => by simp only [codeOf, Tryz.f3, sub, go_seq, go_region, opsSeq_step, opsSeq_guard, guardStep_true, guardStep_false, guardVal, opsSeq_nil, afterStep_some, afterStep_none, stepC, kindOf, quietC, evC, Nat.reduceLT, Tr.get_set, if_true, if_false, Nat.reduceEqDiff, Option.map_some, Option.bind_some, List.getElem?_toArray, List.getElem?_cons_zero, List.getElem?_cons_succ, ofVal, decide_true, decide_false, BEq.rfl, andThen_normal, andThen_exit, andThen_ret, inBlock_normal, inBlock_ret, go_skip, go_exit, go_ret, loudStep, isCall, loudC, targetC, evs, evParts, mapO, List.nil_append, List.append_nil, List.cons_append, loadC, Heap.skip_get, Heap.get_put, Heap.skip_next, Heap.put_next, h1, bin_add, hw]) (by omega) (n := ks.length) (by omega)
    (fun j e G => (∀ t, t < 81 → t ≠ 15 → t ≠ 17 → t ≠ 18 → t ≠ 19 → t ≠ 21 → e.get t = env.get t) ∧ e.get 15 = some (.bool (inOne (ks.take j) a b)) ∧ G = H) (fun _ _ => False)
    (fun j e G s w hs ⟨q, q15, r⟩ => ⟨fun t ht n1 n2 n3 n4 n5 => by rcases hs with rfl | rfl | rfl <;> (rw [Tr.get_set, if_neg (by omega)]; exact q t ht n1 n2 n3 n4 n5), by rcases hs with rfl | rfl | rfl <;> simp only [Tr.get_set, Nat.reduceEqDiff, if_false, q15], r⟩)
    (fun j e G hj ⟨q, q15, hG⟩ h1 h2 => by
      left
      subst hG
      have hjv : j < kvs.length := by rw [hK.len]; exact hj
      obtain ⟨bb, off, cs, fam, lb, _, hidx, hget, _, hcell⟩ := hK.o.has.at (P := Tryz.prog) (t := 31) u31 s27 (i := j) hjv
      obtain ⟨f, hown, _⟩ := hK.k j _ _ (List.getElem?_eq_getElem hjv) (List.getElem?_eq_getElem hj)
      generalize hkv : kvs[j] = kv at hown hcell
      have hc1 := (own_sl hown).1
      have c0 : cs[off]? = some kv := hcell 0 _ (by rw [hc1]; rfl)
      have hlenk := hown.has.len (P := Tryz.prog) u30
      rw [List.length_map] at hlenk
      have hmem := List.getElem_mem hj
      have hq : ∀ t, t < 81 → t ≠ 15 → t ≠ 17 → t ≠ 18 → t ≠ 19 → t ≠ 21 → e.get t = env.get t := q
      have ga : ∃ e2, go Tryz.prog X 169 (.seq (sub (codeOf Tryz.f3) [true,true,true,true,true,true,true,true,false,true,false,false,true,true,false,false,true,true,false,false,true,true,false,false,true,true,false,true,false,false,true,true,false,false,false]) (.seq (sub (codeOf Tryz.f3) [true,true,true,true,true,true,true,true,false,true,false,false,true,true,false,false,true,true,false,false,true,true,false,false,true,true,false,true,false,false,true,true,false,false,true,false]) (sub (codeOf Tryz.f3) [true,true,true,true,true,true,true,true,false,true,false,false,true,true,false,false,true,true,false,false,true,true,false,false,true,true,false,true,false,false,true,true,false,false,true,true,false,false]))) e G = some (.normal, e2, G) ∧ e2.get 18 = some (.bool false) ∧ e2.get 19 = some (.bool false) ∧ e2.get 86 = some kv ∧ e2.get 87 = some (.int .i64 (ks[j].length : Nat)) ∧ e2.get 88 = some (.int .i64 (0 : Nat)) ∧ ∀ t, t < 83 → t ≠ 17 → t ≠ 18 → t ≠ 19 → e2.get t = e.get t := by
        simp only [codeOf, Tryz.f3, sub, go_seq, go_region, opsSeq_step, opsSeq_guard, guardStep_true, guardStep_false, guardVal, opsSeq_nil, afterStep_some, afterStep_none, stepC, kindOf, quietC, evC, Nat.reduceLT, Tr.get_set, if_true, if_false, Nat.reduceEqDiff, Option.map_some, Option.bind_some, List.getElem?_toArray, List.getElem?_cons_zero, List.getElem?_cons_succ, ofVal, decide_true, decide_false, BEq.rfl, andThen_normal, andThen_exit, andThen_ret, inBlock_normal, inBlock_ret, go_skip, go_exit, go_ret, loudStep, isCall, loudC, targetC, evs, evParts, mapO, List.nil_append, List.append_nil, List.cons_append, loadC, Heap.skip_get, Heap.get_put, Heap.skip_next, Heap.put_next, h1, (q 80 (by omega) (by omega) (by omega) (by omega) (by omega) (by omega)).trans h80, hidx, g27, hget, c0, hlenk]
        refine ⟨_, rfl, by simp only [Tr.get_set, Nat.reduceEqDiff, if_false, if_true], by simp only [Tr.get_set, Nat.reduceEqDiff, if_false, if_true], by simp only [Tr.get_set, Nat.reduceEqDiff, if_false, if_true], by simp only [Tr.get_set, Nat.reduceEqDiff, if_false, if_true], by simp only [Tr.get_set, if_true]; rfl, fun t ht n1 n2 n3 => ?_⟩
        simp only [Tr.get_set, n1, n2, n3, show t ≠ 84 by omega, show t ≠ 85 by omega, show t ≠ 86 by omega, show t ≠ 87 by omega, show t ≠ 88 by omega, if_false]
      obtain ⟨e2, ga, a18, a19, a86, a87, a88, aq⟩ := ga
      have hq2 : ∀ t, t < 81 → t ≠ 15 → t ≠ 17 → t ≠ 18 → t ≠ 19 → t ≠ 21 → e2.get t = env.get t := fun t ht n0 n1 n2 n3 n4 => (aq t (by omega) n1 n2 n3).trans (q t ht n0 n1 n2 n3 n4)
      obtain ⟨e3, gb, b18, b19, bq⟩ := lw_knot (X := X) (hk _ hmem) (hlt _ hmem) ha hb hown.has ((hq2 12 (by omega) (by omega) (by omega) (by omega) (by omega) (by omega)).trans h12) ((hq2 14 (by omega) (by omega) (by omega) (by omega) (by omega) (by omega)).trans h14) a18 a19 a86 a87 a88
      have q15' := (bq 15 (by omega) (by omega) (by omega) (by omega)).trans ((aq 15 (by omega) (by omega) (by omega) (by omega)).trans q15)
      have eo := inOne_take (a := a) (b := b) hj
      have gc : ∃ e4, go Tryz.prog X 169 (sub (codeOf Tryz.f3) [true,true,true,true,true,true,true,true,false,true,false,false,true,true,false,false,true,true,false,false,true,true,false,false,true,true,false,true,false,false,true,true,false,false,true,true,true]) e3 G = some (.normal, e4, G) ∧ e4.get 15 = some (.bool (inOne (ks.take (j + 1)) a b)) ∧ ∀ t, t < 105 → t ≠ 15 → e4.get t = e3.get t := by
        rw [eo]
        cases hA : inOne (ks.take j) a b <;> cases hB : decide (a ∈ ks[j]) <;> cases hC : decide (b ∈ ks[j])
        all_goals
          rw [hA] at q15'
          rw [hB] at b18
          rw [hC] at b19
          simp only [codeOf, Tryz.f3, sub, go_seq, go_region, opsSeq_step, opsSeq_guard, guardStep_true, guardStep_false, guardVal, opsSeq_nil, afterStep_some, afterStep_none, stepC, kindOf, quietC, evC, Nat.reduceLT, Tr.get_set, if_true, if_false, Nat.reduceEqDiff, Option.map_some, Option.bind_some, List.getElem?_toArray, List.getElem?_cons_zero, List.getElem?_cons_succ, ofVal, decide_true, decide_false, BEq.rfl, andThen_normal, andThen_exit, andThen_ret, inBlock_normal, inBlock_ret, go_skip, go_exit, go_ret, loudStep, isCall, loudC, targetC, evs, evParts, mapO, List.nil_append, List.append_nil, List.cons_append, loadC, Heap.skip_get, Heap.get_put, Heap.skip_next, Heap.put_next, q15', b18, b19, bft, btf]
          refine ⟨_, rfl, by simp only [Tr.get_set, if_true]; rfl, fun t ht n1 => ?_⟩
          simp only [Tr.get_set, n1, show t ≠ 105 by omega, show t ≠ 106 by omega, show t ≠ 107 by omega, show t ≠ 108 by omega, show t ≠ 109 by omega, show t ≠ 110 by omega, show t ≠ 111 by omega, if_false]
      obtain ⟨e4, gc, c15, cq⟩ := gc
      have hq4 : ∀ t, t < 83 → t ≠ 15 → t ≠ 17 → t ≠ 18 → t ≠ 19 → t ≠ 21 → e4.get t = e.get t := fun t ht n0 n1 n2 n3 n4 => (cq t (by omega) n0).trans ((bq t (by omega) n2 n3 n4).trans (aq t ht n1 n2 n3))
      have hcode : sub (codeOf Tryz.f3) [true,true,true,true,true,true,true,true,false,true,false,false,true,true,false,false,true,true,false,false,true,true,false,false,true,true,false,true,false,false,true,true,false,false] = .seq (sub (codeOf Tryz.f3) [true,true,true,true,true,true,true,true,false,true,false,false,true,true,false,false,true,true,false,false,true,true,false,false,true,true,false,true,false,false,true,true,false,false,false]) (.seq (sub (codeOf Tryz.f3) [true,true,true,true,true,true,true,true,false,true,false,false,true,true,false,false,true,true,false,false,true,true,false,false,true,true,false,true,false,false,true,true,false,false,true,false]) (.seq (.seq (sub (codeOf Tryz.f3) [true,true,true,true,true,true,true,true,false,true,false,false,true,true,false,false,true,true,false,false,true,true,false,false,true,true,false,true,false,false,true,true,false,false,true,true,false,false]) (.block 6 (sub (codeOf Tryz.f3) [true,true,true,true,true,true,true,true,false,true,false,false,true,true,false,false,true,true,false,false,true,true,false,false,true,true,false,true,false,false,true,true,false,false,true,true,false,true,false]))) (sub (codeOf Tryz.f3) [true,true,true,true,true,true,true,true,false,true,false,false,true,true,false,false,true,true,false,false,true,true,false,false,true,true,false,true,false,false,true,true,false,false,true,true,true]))) := rfl
      refine ⟨.normal, e4, G, ?_, .inl rfl, ⟨fun t ht n0 n1 n2 n3 n4 => (hq4 t (by omega) n0 n1 n2 n3 n4).trans (q t ht n0 n1 n2 n3 n4), c15, rfl⟩, (hq4 82 (by omega) (by omega) (by omega) (by omega) (by omega) (by omega)).trans h1, (hq4 81 (by omega) (by omega) (by omega) (by omega) (by omega) (by omega)).trans h2⟩
      rw [go_code hcode, go_loop3, ga, andThen_normal, go_block, gb, inBlock_exit, if_pos rfl, andThen_normal, gc])
  rcases hL ks.length 0 env H (by omega) ⟨fun _ _ _ _ _ _ _ => rfl, by simpa [inOne] using h15, rfl⟩ h82 h81 with ⟨e2, G, g, q, q15, rfl⟩ | ⟨_, _, _, ff⟩
  · rw [List.take_length] at q15
    exact ⟨e2, g, q15, fun t ht n1 n2 n3 n4 n5 => q t (by omega) n1 n2 n3 n4 n5⟩
  · exact ff.elim
end Go.Y

namespace Go.Y
open Go.K Go.Proofs
set_option linter.unusedSimpArgs false
set_option linter.unusedVariables false
set_option maxRecDepth 10000

variable {X : CallFn}

theorem neq4 (a b : Bool) : binC Tryz.prog .neq 4 (.bool a) (.bool b) = some (.bool (a != b)) := by
  cases a <;> cases b <;> kernel_rfl

/-- What stays in the law. -/
structure LB (B H : Heap) (l : CV) (rs : Rels) (ba : Nat) (uv vo iv : CV) (fo : Nat) (kvs : List CV) (all : List Nat) : Prop where
  hl : Has H 3 41 l (rs.map relCV)
  hba : H.get ba = some (.cells [l] 25 none)
  lba : ba < H.next
  hu : Has H 1 9 uv ((unitsOf rs).map nm)
  hK : KO B H vo fo kvs (knotsF rs 100 all)
  hi : Has H 1 3 iv ((tiedTo rs rs.length).map nI)
theorem LB.ext {B H H' : Heap} {l uv vo iv : CV} {rs : Rels} {ba fo : Nat} {kvs : List CV} {all : List Nat} (h : LB B H l rs ba uv vo iv fo kvs all) (hx : Ext H.next H H') (hk : HOk H') : LB B H' l rs ba uv vo iv fo kvs all :=
  ⟨h.hl.ext hx h.hl.lt, hx.2 _ _ h.lba h.hba, Nat.lt_of_lt_of_le h.lba hx.1, h.hu.ext hx h.hu.lt, h.hK.step hx hk, h.hi.ext hx h.hi.lt⟩

theorem knotsF_sub {rs : Rels} : ∀ {n : Nat} {all k : List Nat}, k ∈ knotsF rs n all → (∀ x ∈ k, x ∈ all) ∧ k.length ≤ all.length
  | 0, all, k, h => by simp [knotsF] at h
  | n + 1, [], k, h => by simp [knotsF] at h
  | n + 1, u :: t, k, h => by
    simp only [knotsF, List.mem_cons] at h
    rcases h with rfl | h
    · exact ⟨fun x hx => (List.mem_filter.1 hx).1, List.length_filter_le _ _⟩
    · obtain ⟨h1, h2⟩ := knotsF_sub h
      exact ⟨fun x hx => (List.mem_filter.1 (h1 x hx)).1, Nat.le_trans h2 (List.length_filter_le _ _)⟩
theorem knotsF_length {rs : Rels} : ∀ (n : Nat) (all : List Nat), (knotsF rs n all).length ≤ n
  | 0, all => by simp [knotsF]
  | n + 1, [] => by simp [knotsF]
  | n + 1, u :: t => by
    simp only [knotsF, List.length_cons]
    have := knotsF_length (rs := rs) n ((u :: t).filter fun x => !both rs x u)
    omega

/-- The hook's parts that the law's own calls want. -/
structure LX (X : CallFn) : Prop where
  y : YX X
  x23 : X 23 = fun _ _ => none
  x12 : ∀ a H, X 12 a H = none
  x11 : ∀ a H, X 11 a H = none

theorem lw_pair (hX : LX X) {B H : Heap} {l uv vo iv : CV} {rs : Rels} {ba fo a b : Nat} {kvs : List CV} {all : List Nat} {env : Env} (hr : rs.length ≤ 30) (hR : ∀ r ∈ rs, Right r) (hall : ∀ a, a ∈ all ↔ Low rs a) (hal : all.length ≤ 100) (ha : a ∈ unitsOf rs) (hb : b ∈ unitsOf rs) (hB : LB B H l rs ba uv vo iv fo kvs all) (hk : HOk H)
    (h10 : env.get 10 = some (.func (.func 11) [] [.ptr ba 0])) (h12 : env.get 12 = some (nm a)) (h14 : env.get 14 = some (nm b)) (h15 : env.get 15 = some (.bool (inOne (knotsF rs 100 all) a b))) :
    ∃ env' H', go Tryz.prog X 169 (sub (codeOf Tryz.f3) [true,true,true,true,true,true,true,true,false,true,false,false,true,true,false,false,true,true,false,false,true,true,false,false,true,true,true,false]) env H = some (.normal, env', H') ∧ env'.get 129 = some (.bool false) ∧ HOk H' ∧ Ext H.next H H' ∧ ∀ t, t < 113 → env'.get t = env.get t := by
  have hn8 := right_names hR
  have hu8 : ∀ y ∈ unitsOf rs, y < 100 := fun y hy => by
    have := hn8 y ((mem_unitsOf (fun x hx => by have := hn8 x hx; omega)).1 hy)
    omega
  by_cases hab : a = b
  · subst hab
    have key : ∃ e, go Tryz.prog X 169 (sub (codeOf Tryz.f3) [true,true,true,true,true,true,true,true,false,true,false,false,true,true,false,false,true,true,false,false,true,true,false,false,true,true,true,false]) env H = some (.normal, e, H) ∧ e.get 129 = some (.bool false) ∧ ∀ t, t < 113 → e.get t = env.get t := by
      simp only [codeOf, Tryz.f3, sub, go_seq, go_region, opsSeq_step, opsSeq_guard, guardStep_true, guardStep_false, guardVal, opsSeq_nil, afterStep_some, afterStep_none, stepC, kindOf, quietC, evC, Nat.reduceLT, Tr.get_set, if_true, if_false, Nat.reduceEqDiff, Option.map_some, Option.bind_some, List.getElem?_toArray, List.getElem?_cons_zero, List.getElem?_cons_succ, ofVal, decide_true, decide_false, BEq.rfl, andThen_normal, andThen_exit, andThen_ret, inBlock_normal, inBlock_ret, go_skip, go_exit, go_ret, loudStep, isCall, loudC, targetC, evs, evParts, mapO, List.nil_append, List.append_nil, List.cons_append, loadC, Heap.skip_get, Heap.get_put, Heap.skip_next, Heap.put_next, h10, h12, h14, h15, nm_neq (hu8 a ha) (hu8 a ha), ne_eq, not_true_eq_false, bft, btf]
      refine ⟨_, rfl, by simp only [Tr.get_set, if_true], fun t ht => ?_⟩
      simp only [Tr.get_set, show t ≠ 113 by omega, show t ≠ 114 by omega, show t ≠ 115 by omega, show t ≠ 116 by omega, show t ≠ 117 by omega, show t ≠ 118 by omega, show t ≠ 119 by omega, show t ≠ 120 by omega, show t ≠ 121 by omega, show t ≠ 122 by omega, show t ≠ 123 by omega, show t ≠ 124 by omega, show t ≠ 125 by omega, show t ≠ 126 by omega, show t ≠ 127 by omega, show t ≠ 128 by omega, show t ≠ 129 by omega, if_false]
    obtain ⟨e, key, k1, k2⟩ := key
    exact ⟨e, H, key, k1, hk, Ext.refl _ _, k2⟩
  · obtain ⟨o1, H1, c1, ho1, k1, x1⟩ := tie_ok (X := X) hX.y hX.x23 hX.x12 hX.x11 (a := a) (b := b) (ba := ba) hr hR hB.hl hk ha hb hB.hba
    have hB1 := hB.ext x1 k1
    obtain ⟨o2, H2, c2, ho2, k2, x2⟩ := tie_ok (X := X) hX.y hX.x23 hX.x12 hX.x11 (a := b) (b := a) (ba := ba) hr hR hB1.hl k1 hb ha hB1.hba
    have ht := knots_ties hR hall (n := 100) hal ha hb hab
    have hone : inOne (knotsF rs 100 all) a b = (o1 && o2) := by
      rw [Bool.eq_iff_iff, inOne_iff, Bool.and_eq_true, ho1, ho2]; exact ht
    rw [hone] at h15
    cases ho : o1 with
    | false =>
      rw [ho] at h15 c1
      have key : ∃ e, go Tryz.prog X 169 (sub (codeOf Tryz.f3) [true,true,true,true,true,true,true,true,false,true,false,false,true,true,false,false,true,true,false,false,true,true,false,false,true,true,true,false]) env H = some (.normal, e, H1) ∧ e.get 129 = some (.bool false) ∧ ∀ t, t < 113 → e.get t = env.get t := by
        simp only [codeOf, Tryz.f3, sub, go_seq, go_region, opsSeq_step, opsSeq_guard, guardStep_true, guardStep_false, guardVal, opsSeq_nil, afterStep_some, afterStep_none, stepC, kindOf, quietC, evC, Nat.reduceLT, Tr.get_set, if_true, if_false, Nat.reduceEqDiff, Option.map_some, Option.bind_some, List.getElem?_toArray, List.getElem?_cons_zero, List.getElem?_cons_succ, ofVal, decide_true, decide_false, BEq.rfl, andThen_normal, andThen_exit, andThen_ret, inBlock_normal, inBlock_ret, go_skip, go_exit, go_ret, loudStep, isCall, loudC, targetC, evs, evParts, mapO, List.nil_append, List.append_nil, List.cons_append, loadC, Heap.skip_get, Heap.get_put, Heap.skip_next, Heap.put_next, h10, h12, h14, h15, nm_neq (hu8 a ha) (hu8 b hb), ne_eq, hab, not_false_eq_true, bft, btf, c1, neq4]
        refine ⟨_, rfl, by simp only [Tr.get_set, if_true]; rfl, fun t ht => ?_⟩
        simp only [Tr.get_set, show t ≠ 113 by omega, show t ≠ 114 by omega, show t ≠ 115 by omega, show t ≠ 116 by omega, show t ≠ 117 by omega, show t ≠ 118 by omega, show t ≠ 119 by omega, show t ≠ 120 by omega, show t ≠ 121 by omega, show t ≠ 122 by omega, show t ≠ 123 by omega, show t ≠ 124 by omega, show t ≠ 125 by omega, show t ≠ 126 by omega, show t ≠ 127 by omega, show t ≠ 128 by omega, show t ≠ 129 by omega, if_false]
      obtain ⟨e, key, q1, q2⟩ := key
      exact ⟨e, H1, key, q1, k1, x1, q2⟩
    | true =>
      rw [ho] at h15 c1
      have key : ∃ e, go Tryz.prog X 169 (sub (codeOf Tryz.f3) [true,true,true,true,true,true,true,true,false,true,false,false,true,true,false,false,true,true,false,false,true,true,false,false,true,true,true,false]) env H = some (.normal, e, H2) ∧ e.get 129 = some (.bool false) ∧ ∀ t, t < 113 → e.get t = env.get t := by
        simp only [codeOf, Tryz.f3, sub, go_seq, go_region, opsSeq_step, opsSeq_guard, guardStep_true, guardStep_false, guardVal, opsSeq_nil, afterStep_some, afterStep_none, stepC, kindOf, quietC, evC, Nat.reduceLT, Tr.get_set, if_true, if_false, Nat.reduceEqDiff, Option.map_some, Option.bind_some, List.getElem?_toArray, List.getElem?_cons_zero, List.getElem?_cons_succ, ofVal, decide_true, decide_false, BEq.rfl, andThen_normal, andThen_exit, andThen_ret, inBlock_normal, inBlock_ret, go_skip, go_exit, go_ret, loudStep, isCall, loudC, targetC, evs, evParts, mapO, List.nil_append, List.append_nil, List.cons_append, loadC, Heap.skip_get, Heap.get_put, Heap.skip_next, Heap.put_next, h10, h12, h14, h15, nm_neq (hu8 a ha) (hu8 b hb), ne_eq, hab, not_false_eq_true, bft, btf, c1, c2, neq4]
        refine ⟨_, rfl, by simp only [Tr.get_set, if_true]; cases o2 <;> rfl, fun t ht => ?_⟩
        simp only [Tr.get_set, show t ≠ 113 by omega, show t ≠ 114 by omega, show t ≠ 115 by omega, show t ≠ 116 by omega, show t ≠ 117 by omega, show t ≠ 118 by omega, show t ≠ 119 by omega, show t ≠ 120 by omega, show t ≠ 121 by omega, show t ≠ 122 by omega, show t ≠ 123 by omega, show t ≠ 124 by omega, show t ≠ 125 by omega, show t ≠ 126 by omega, show t ≠ 127 by omega, show t ≠ 128 by omega, show t ≠ 129 by omega, if_false]
      obtain ⟨e, key, q1, q2⟩ := key
      exact ⟨e, H2, key, q1, k2, x1.trans (x2.le x1.1), q2⟩

theorem lw_row (hX : LX X) {B Hb : Heap} {l uv vo iv : CV} {rs : Rels} {ba fo a : Nat} {kvs : List CV} {all : List Nat} {env : Env} (hr : rs.length ≤ 30) (hR : ∀ r ∈ rs, Right r) (hall : ∀ a, a ∈ all ↔ Low rs a) (hal : all.length ≤ 100) (ha : a ∈ unitsOf rs) (hB : LB B Hb l rs ba uv vo iv fo kvs all) (hk : HOk Hb)
    (h6 : env.get 6 = some vo) (h10 : env.get 10 = some (.func (.func 11) [] [.ptr ba 0])) (h12 : env.get 12 = some (nm a)) (h74 : env.get 74 = some uv) (h75 : env.get 75 = some (.int .i64 ((unitsOf rs).length : Nat))) (h76 : env.get 76 = some (.int .i64 (0 : Nat))) :
    ∃ env' H', go Tryz.prog X 169 (sub (codeOf Tryz.f3) [true,true,true,true,true,true,true,true,false,true,false,false,true,true,false,false,true,true,false]) env Hb = some (.exit 2, env', H') ∧ HOk H' ∧ Ext Hb.next Hb H' ∧ ∀ t, t < 74 → t ≠ 14 → t ≠ 15 → t ≠ 17 → t ≠ 18 → t ≠ 19 → t ≠ 21 → env'.get t = env.get t := by
  have hn8 := right_names hR
  have hu8 : ∀ y ∈ unitsOf rs, y < 100 := fun y hy => by
    have := hn8 y ((mem_unitsOf (fun x hx => by have := hn8 x hx; omega)).1 hy)
    omega
  have hul := units_len hR
  have hL := range_loop (P := Tryz.prog) (X := X) (nt := 169) (code := sub (codeOf Tryz.f3) [true,true,true,true,true,true,true,true,false,true,false,false,true,true,false,false,true,true,false]) (hd := sub (codeOf Tryz.f3) [true,true,true,true,true,true,true,true,false,true,false,false,true,true,false,false,true,true,false,false,false]) (body := sub (codeOf Tryz.f3) [true,true,true,true,true,true,true,true,false,true,false,false,true,true,false,false,true,true,false,false,true,true,false,false]) (inc := sub (codeOf Tryz.f3) [true,true,true,true,true,true,true,true,false,true,false,false,true,true,false,false,true,true,false,false,true,true,true]) (ti := 76) (tn := 75) (tc := 77) (tx := 130) (e := 2) (b := 3) rfl (by omega)
    (fun env H i n h1 h2 => by simp only [codeOf, Tryz.f3, sub, go_seq, go_region, opsSeq_step, opsSeq_guard, guardStep_true, guardStep_false, guardVal, opsSeq_nil, afterStep_some, afterStep_none, stepC, kindOf, quietC, evC, Nat.reduceLT, Tr.get_set, if_true, if_false, Nat.reduceEqDiff, Option.map_some, Option.bind_some, List.getElem?_toArray, List.getElem?_cons_zero, List.getElem?_cons_succ, ofVal, decide_true, decide_false, BEq.rfl, andThen_normal, andThen_exit, andThen_ret, inBlock_normal, inBlock_ret, go_skip, go_exit, go_ret, loudStep, isCall, loudC, targetC, evs, evParts, mapO, List.nil_append, List.append_nil, List.cons_append, loadC, Heap.skip_get, Heap.get_put, Heap.skip_next, Heap.put_next, h1, h2, bin_lss]) (fun env H i h1 hw => by simp only [codeOf, Tryz.f3, sub, go_seq, go_region, opsSeq_step, opsSeq_guard, guardStep_true, guardStep_false, guardVal, opsSeq_nil, afterStep_some, afterStep_none, stepC, kindOf, quietC, evC, Nat.reduceLT, Tr.get_set, if_true, if_false, Nat.reduceEqDiff, Option.map_some, Option.bind_some, List.getElem?_toArray, List.getElem?_cons_zero, List.getElem?_cons_succ, ofVal, decide_true, decide_false, BEq.rfl, andThen_normal, andThen_exit, andThen_ret, inBlock_normal, inBlock_ret, go_skip, go_exit, go_ret, loudStep, isCall, loudC, targetC, evs, evParts, mapO, List.nil_append, List.append_nil, List.cons_append, loadC, Heap.skip_get, Heap.get_put, Heap.skip_next, Heap.put_next, h1, bin_add, hw]) (by omega) (n := (unitsOf rs).length) (by omega)
    (fun j e G => (∀ t, t < 75 → t ≠ 14 → t ≠ 15 → t ≠ 17 → t ≠ 18 → t ≠ 19 → t ≠ 21 → e.get t = env.get t) ∧ HOk G ∧ Ext Hb.next Hb G) (fun _ _ => False)
    (fun j e G s w hs ⟨q, r⟩ => ⟨fun t ht n1 n2 n3 n4 n5 n6 => by rcases hs with rfl | rfl | rfl <;> (rw [Tr.get_set, if_neg (by omega)]; exact q t ht n1 n2 n3 n4 n5 n6), r⟩)
    (fun j e G hj ⟨q, kG, xG⟩ h1 h2 => by
      left
      have hBG := hB.ext xG kG
      obtain ⟨bb, off, cs, fam, lb, _, hidx, hget, _, hcell⟩ := hBG.hu.at (P := Tryz.prog) (t := 27) u30 s9 (i := j) (by simpa using hj)
      rw [List.getElem_map] at hcell
      have c0 : cs[off]? = some (nm (unitsOf rs)[j]) := hcell 0 _ rfl
      have hbm := List.getElem_mem hj
      generalize hbj : (unitsOf rs)[j] = b at c0 hbm
      have hlenk := hBG.hK.o.has.len (P := Tryz.prog) u31
      rw [hBG.hK.len] at hlenk
      have ga : ∃ e2, go Tryz.prog X 169 (.seq (sub (codeOf Tryz.f3) [true,true,true,true,true,true,true,true,false,true,false,false,true,true,false,false,true,true,false,false,true,true,false,false,false]) (.seq (sub (codeOf Tryz.f3) [true,true,true,true,true,true,true,true,false,true,false,false,true,true,false,false,true,true,false,false,true,true,false,false,true,false]) (sub (codeOf Tryz.f3) [true,true,true,true,true,true,true,true,false,true,false,false,true,true,false,false,true,true,false,false,true,true,false,false,true,true,false,false]))) e G = some (.normal, e2, G) ∧ e2.get 14 = some (nm b) ∧ e2.get 15 = some (.bool false) ∧ e2.get 80 = some vo ∧ e2.get 81 = some (.int .i64 ((knotsF rs 100 all).length : Nat)) ∧ e2.get 82 = some (.int .i64 (0 : Nat)) ∧ ∀ t, t < 77 → t ≠ 14 → t ≠ 15 → e2.get t = e.get t := by
        simp only [codeOf, Tryz.f3, sub, go_seq, go_region, opsSeq_step, opsSeq_guard, guardStep_true, guardStep_false, guardVal, opsSeq_nil, afterStep_some, afterStep_none, stepC, kindOf, quietC, evC, Nat.reduceLT, Tr.get_set, if_true, if_false, Nat.reduceEqDiff, Option.map_some, Option.bind_some, List.getElem?_toArray, List.getElem?_cons_zero, List.getElem?_cons_succ, ofVal, decide_true, decide_false, BEq.rfl, andThen_normal, andThen_exit, andThen_ret, inBlock_normal, inBlock_ret, go_skip, go_exit, go_ret, loudStep, isCall, loudC, targetC, evs, evParts, mapO, List.nil_append, List.append_nil, List.cons_append, loadC, Heap.skip_get, Heap.get_put, Heap.skip_next, Heap.put_next, h1, (q 74 (by omega) (by omega) (by omega) (by omega) (by omega) (by omega) (by omega)).trans h74, hidx, g9, hget, c0, (q 6 (by omega) (by omega) (by omega) (by omega) (by omega) (by omega) (by omega)).trans h6, hlenk]
        refine ⟨_, rfl, by simp only [Tr.get_set, Nat.reduceEqDiff, if_false, if_true], by simp only [Tr.get_set, Nat.reduceEqDiff, if_false, if_true], by simp only [Tr.get_set, Nat.reduceEqDiff, if_false, if_true], by simp only [Tr.get_set, Nat.reduceEqDiff, if_false, if_true], by simp only [Tr.get_set, if_true]; rfl, fun t ht n1 n2 => ?_⟩
        simp only [Tr.get_set, n1, n2, show t ≠ 78 by omega, show t ≠ 79 by omega, show t ≠ 80 by omega, show t ≠ 81 by omega, show t ≠ 82 by omega, if_false]
      obtain ⟨e2, ga, a14, a15, a80, a81, a82, aq⟩ := ga
      have hq2 : ∀ t, t < 75 → t ≠ 14 → t ≠ 15 → t ≠ 17 → t ≠ 18 → t ≠ 19 → t ≠ 21 → e2.get t = env.get t := fun t ht n1 n2 n3 n4 n5 n6 => (aq t (by omega) n1 n2).trans (q t ht n1 n2 n3 n4 n5 n6)
      have hkl := knotsF_length (rs := rs) 100 all
      obtain ⟨e3, gb, b15, bq⟩ := lw_knots (X := X) (a := a) (b := b) hkl (fun k hk' => Nat.le_trans (knotsF_sub hk').2 hal) (fun k hk' x hx => by
        obtain ⟨r, hr', _, e⟩ := (hall x).1 ((knotsF_sub hk').1 x hx)
        have := (hR r hr').2.2.2.1
        omega) (hu8 a ha) (hu8 b hbm) hBG.hK ((hq2 12 (by omega) (by omega) (by omega) (by omega) (by omega) (by omega) (by omega)).trans h12) a14 a15 a80 a81 a82
      have hq3 : ∀ t, t < 75 → t ≠ 14 → t ≠ 15 → t ≠ 17 → t ≠ 18 → t ≠ 19 → t ≠ 21 → e3.get t = env.get t := fun t ht n1 n2 n3 n4 n5 n6 => (bq t (by omega) n2 n3 n4 n5 n6).trans (hq2 t ht n1 n2 n3 n4 n5 n6)
      obtain ⟨e4, G4, gc, c129, k4, x4, cq⟩ := lw_pair (X := X) hX hr hR hall hal ha hbm hBG kG ((hq3 10 (by omega) (by omega) (by omega) (by omega) (by omega) (by omega) (by omega)).trans h10) ((hq3 12 (by omega) (by omega) (by omega) (by omega) (by omega) (by omega) (by omega)).trans h12) ((bq 14 (by omega) (by omega) (by omega) (by omega) (by omega) (by omega)).trans a14) b15
      have hq4 : ∀ t, t < 77 → t ≠ 14 → t ≠ 15 → t ≠ 17 → t ≠ 18 → t ≠ 19 → t ≠ 21 → e4.get t = e.get t := fun t ht n1 n2 n3 n4 n5 n6 => (cq t (by omega)).trans ((bq t (by omega) n2 n3 n4 n5 n6).trans (aq t ht n1 n2))
      have hcode : sub (codeOf Tryz.f3) [true,true,true,true,true,true,true,true,false,true,false,false,true,true,false,false,true,true,false,false,true,true,false,false] = .seq (sub (codeOf Tryz.f3) [true,true,true,true,true,true,true,true,false,true,false,false,true,true,false,false,true,true,false,false,true,true,false,false,false]) (.seq (sub (codeOf Tryz.f3) [true,true,true,true,true,true,true,true,false,true,false,false,true,true,false,false,true,true,false,false,true,true,false,false,true,false]) (.seq (.seq (sub (codeOf Tryz.f3) [true,true,true,true,true,true,true,true,false,true,false,false,true,true,false,false,true,true,false,false,true,true,false,false,true,true,false,false]) (.block 4 (sub (codeOf Tryz.f3) [true,true,true,true,true,true,true,true,false,true,false,false,true,true,false,false,true,true,false,false,true,true,false,false,true,true,false,true,false]))) (.seq (sub (codeOf Tryz.f3) [true,true,true,true,true,true,true,true,false,true,false,false,true,true,false,false,true,true,false,false,true,true,false,false,true,true,true,false]) (.cond (.tmp 129) (sub (codeOf Tryz.f3) [true,true,true,true,true,true,true,true,false,true,false,false,true,true,false,false,true,true,false,false,true,true,false,false,true,true,true,true,false]) .skip)))) := rfl
      refine ⟨.normal, e4, G4, ?_, .inl rfl, ⟨fun t ht n1 n2 n3 n4 n5 n6 => (hq4 t (by omega) n1 n2 n3 n4 n5 n6).trans (q t ht n1 n2 n3 n4 n5 n6), k4, xG.trans (x4.le xG.1)⟩, (hq4 76 (by omega) (by omega) (by omega) (by omega) (by omega) (by omega) (by omega)).trans h1, (cq 75 (by omega)).trans ((bq 75 (by omega) (by omega) (by omega) (by omega) (by omega) (by omega)).trans ((aq 75 (by omega) (by omega) (by omega)).trans h2))⟩
      rw [go_code hcode, go_loop3, ga, andThen_normal, go_block, gb, inBlock_exit, if_pos rfl, andThen_normal, go_seq, gc, andThen_normal, go_cond _ _ _ (v := false) (by simp only [evC, c129]), if_neg (by simp), go_skip])
  rcases hL (unitsOf rs).length 0 env Hb (by omega) ⟨fun _ _ _ _ _ _ _ _ => rfl, hk, Ext.refl _ _⟩ h76 h75 with ⟨e2, G, g, q, kG, xG⟩ | ⟨_, _, _, ff⟩
  · exact ⟨e2, G, g, kG, xG, fun t ht n1 n2 n3 n4 n5 n6 => q t (by omega) n1 n2 n3 n4 n5 n6⟩
  · exact ff.elim

theorem lw_square (hX : LX X) {B Hb : Heap} {l uv vo iv : CV} {rs : Rels} {ba fo : Nat} {kvs : List CV} {all : List Nat} {env : Env} (hr : rs.length ≤ 30) (hR : ∀ r ∈ rs, Right r) (hall : ∀ a, a ∈ all ↔ Low rs a) (hal : all.length ≤ 100) (hB : LB B Hb l rs ba uv vo iv fo kvs all) (hk : HOk Hb)
    (h4 : env.get 4 = some uv) (h6 : env.get 6 = some vo) (h10 : env.get 10 = some (.func (.func 11) [] [.ptr ba 0])) (h68 : env.get 68 = some uv) (h69 : env.get 69 = some (.int .i64 ((unitsOf rs).length : Nat))) (h70 : env.get 70 = some (.int .i64 (0 : Nat))) :
    ∃ env' H', go Tryz.prog X 169 (sub (codeOf Tryz.f3) [true,true,true,true,true,true,true,true,false,true,false]) env Hb = some (.exit 0, env', H') ∧ HOk H' ∧ Ext Hb.next Hb H' ∧ ∀ t, t < 12 → env'.get t = env.get t := by
  have hul := units_len hR
  have hL := range_loop (P := Tryz.prog) (X := X) (nt := 169) (code := sub (codeOf Tryz.f3) [true,true,true,true,true,true,true,true,false,true,false]) (hd := sub (codeOf Tryz.f3) [true,true,true,true,true,true,true,true,false,true,false,false,false]) (body := sub (codeOf Tryz.f3) [true,true,true,true,true,true,true,true,false,true,false,false,true,true,false,false]) (inc := sub (codeOf Tryz.f3) [true,true,true,true,true,true,true,true,false,true,false,false,true,true,true]) (ti := 70) (tn := 69) (tc := 71) (tx := 131) (e := 0) (b := 1) rfl (by omega)
    (fun env H i n h1 h2 => by simp only [codeOf, Tryz.f3, sub, go_seq, go_region, opsSeq_step, opsSeq_guard, guardStep_true, guardStep_false, guardVal, opsSeq_nil, afterStep_some, afterStep_none, stepC, kindOf, quietC, evC, Nat.reduceLT, Tr.get_set, if_true, if_false, Nat.reduceEqDiff, Option.map_some, Option.bind_some, List.getElem?_toArray, List.getElem?_cons_zero, List.getElem?_cons_succ, ofVal, decide_true, decide_false, BEq.rfl, andThen_normal, andThen_exit, andThen_ret, inBlock_normal, inBlock_ret, go_skip, go_exit, go_ret, loudStep, isCall, loudC, targetC, evs, evParts, mapO, List.nil_append, List.append_nil, List.cons_append, loadC, Heap.skip_get, Heap.get_put, Heap.skip_next, Heap.put_next, h1, h2, bin_lss]) (fun env H i h1 hw => by simp only [codeOf, Tryz.f3, sub, go_seq, go_region, opsSeq_step, opsSeq_guard, guardStep_true, guardStep_false, guardVal, opsSeq_nil, afterStep_some, afterStep_none, stepC, kindOf, quietC, evC, Nat.reduceLT, Tr.get_set, if_true, if_false, Nat.reduceEqDiff, Option.map_some, Option.bind_some, List.getElem?_toArray, List.getElem?_cons_zero, List.getElem?_cons_succ, ofVal, decide_true, decide_false, BEq.rfl, andThen_normal, andThen_exit, andThen_ret, inBlock_normal, inBlock_ret, go_skip, go_exit, go_ret, loudStep, isCall, loudC, targetC, evs, evParts, mapO, List.nil_append, List.append_nil, List.cons_append, loadC, Heap.skip_get, Heap.get_put, Heap.skip_next, Heap.put_next, h1, bin_add, hw]) (by omega) (n := (unitsOf rs).length) (by omega)
    (fun j e G => (∀ t, t < 69 → t ≠ 12 → t ≠ 14 → t ≠ 15 → t ≠ 17 → t ≠ 18 → t ≠ 19 → t ≠ 21 → e.get t = env.get t) ∧ HOk G ∧ Ext Hb.next Hb G) (fun _ _ => False)
    (fun j e G s w hs ⟨q, r⟩ => ⟨fun t ht n0 n1 n2 n3 n4 n5 n6 => by rcases hs with rfl | rfl | rfl <;> (rw [Tr.get_set, if_neg (by omega)]; exact q t ht n0 n1 n2 n3 n4 n5 n6), r⟩)
    (fun j e G hj ⟨q, kG, xG⟩ h1 h2 => by
      left
      have hBG := hB.ext xG kG
      obtain ⟨bb, off, cs, fam, lb, _, hidx, hget, _, hcell⟩ := hBG.hu.at (P := Tryz.prog) (t := 27) u30 s9 (i := j) (by simpa using hj)
      rw [List.getElem_map] at hcell
      have c0 : cs[off]? = some (nm (unitsOf rs)[j]) := hcell 0 _ rfl
      have ham := List.getElem_mem hj
      generalize haj : (unitsOf rs)[j] = a at c0 ham
      have hlenu := hBG.hu.len (P := Tryz.prog) u30
      rw [List.length_map] at hlenu
      have qq : ∀ t, t < 12 → e.get t = env.get t := fun t ht => q t (by omega) (by omega) (by omega) (by omega) (by omega) (by omega) (by omega) (by omega)
      have ga : ∃ e2, go Tryz.prog X 169 (.seq (sub (codeOf Tryz.f3) [true,true,true,true,true,true,true,true,false,true,false,false,true,true,false,false,false]) (sub (codeOf Tryz.f3) [true,true,true,true,true,true,true,true,false,true,false,false,true,true,false,false,true,false])) e G = some (.normal, e2, G) ∧ e2.get 12 = some (nm a) ∧ e2.get 74 = some uv ∧ e2.get 75 = some (.int .i64 ((unitsOf rs).length : Nat)) ∧ e2.get 76 = some (.int .i64 (0 : Nat)) ∧ ∀ t, t < 71 → t ≠ 12 → e2.get t = e.get t := by
        simp only [codeOf, Tryz.f3, sub, go_seq, go_region, opsSeq_step, opsSeq_guard, guardStep_true, guardStep_false, guardVal, opsSeq_nil, afterStep_some, afterStep_none, stepC, kindOf, quietC, evC, Nat.reduceLT, Tr.get_set, if_true, if_false, Nat.reduceEqDiff, Option.map_some, Option.bind_some, List.getElem?_toArray, List.getElem?_cons_zero, List.getElem?_cons_succ, ofVal, decide_true, decide_false, BEq.rfl, andThen_normal, andThen_exit, andThen_ret, inBlock_normal, inBlock_ret, go_skip, go_exit, go_ret, loudStep, isCall, loudC, targetC, evs, evParts, mapO, List.nil_append, List.append_nil, List.cons_append, loadC, Heap.skip_get, Heap.get_put, Heap.skip_next, Heap.put_next, h1, (q 68 (by omega) (by omega) (by omega) (by omega) (by omega) (by omega) (by omega) (by omega)).trans h68, hidx, g9, hget, c0, (qq 4 (by omega)).trans h4, hlenu]
        refine ⟨_, rfl, by simp only [Tr.get_set, Nat.reduceEqDiff, if_false, if_true], by simp only [Tr.get_set, Nat.reduceEqDiff, if_false, if_true], by simp only [Tr.get_set, Nat.reduceEqDiff, if_false, if_true], by simp only [Tr.get_set, if_true]; rfl, fun t ht n1 => ?_⟩
        simp only [Tr.get_set, n1, show t ≠ 72 by omega, show t ≠ 73 by omega, show t ≠ 74 by omega, show t ≠ 75 by omega, show t ≠ 76 by omega, if_false]
      obtain ⟨e2, ga, a12, a74, a75, a76, aq⟩ := ga
      obtain ⟨e3, G3, gb, k3, x3, bq⟩ := lw_row (X := X) hX hr hR hall hal ham hBG kG ((aq 6 (by omega) (by omega)).trans ((qq 6 (by omega)).trans h6)) ((aq 10 (by omega) (by omega)).trans ((qq 10 (by omega)).trans h10)) a12 a74 a75 a76
      have hq3 : ∀ t, t < 71 → t ≠ 12 → t ≠ 14 → t ≠ 15 → t ≠ 17 → t ≠ 18 → t ≠ 19 → t ≠ 21 → e3.get t = e.get t := fun t ht n0 n1 n2 n3 n4 n5 n6 => (bq t (by omega) n1 n2 n3 n4 n5 n6).trans (aq t ht n0)
      have hcode : sub (codeOf Tryz.f3) [true,true,true,true,true,true,true,true,false,true,false,false,true,true,false,false] = .seq (sub (codeOf Tryz.f3) [true,true,true,true,true,true,true,true,false,true,false,false,true,true,false,false,false]) (.seq (sub (codeOf Tryz.f3) [true,true,true,true,true,true,true,true,false,true,false,false,true,true,false,false,true,false]) (.block 2 (sub (codeOf Tryz.f3) [true,true,true,true,true,true,true,true,false,true,false,false,true,true,false,false,true,true,false]))) := rfl
      refine ⟨.normal, e3, G3, ?_, .inl rfl, ⟨fun t ht n0 n1 n2 n3 n4 n5 n6 => (hq3 t (by omega) n0 n1 n2 n3 n4 n5 n6).trans (q t ht n0 n1 n2 n3 n4 n5 n6), k3, xG.trans (x3.le xG.1)⟩, (hq3 70 (by omega) (by omega) (by omega) (by omega) (by omega) (by omega) (by omega) (by omega)).trans h1, (hq3 69 (by omega) (by omega) (by omega) (by omega) (by omega) (by omega) (by omega) (by omega)).trans h2⟩
      rw [go_code hcode, go_seq2, ga, andThen_normal, go_block, gb, inBlock_exit, if_pos rfl])
  rcases hL (unitsOf rs).length 0 env Hb (by omega) ⟨fun _ _ _ _ _ _ _ _ _ => rfl, hk, Ext.refl _ _⟩ h70 h69 with ⟨e2, G, g, q, kG, xG⟩ | ⟨_, _, _, ff⟩
  · exact ⟨e2, G, g, kG, xG, fun t ht => q t (by omega) (by omega) (by omega) (by omega) (by omega) (by omega) (by omega) (by omega)⟩
  · exact ff.elim
end Go.Y
