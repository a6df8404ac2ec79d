/- Maps from names to slices that grow. open: the relations by the units at which they begin. distances: what leads into each unit. -/
import Derived.Test.YtmnhkbhdfkebmaaGreatY7

set_option linter.unusedSimpArgs false
set_option linter.unusedVariables false

namespace Go.Y
open Go.K Go.Proofs
set_option linter.unusedSimpArgs false
set_option linter.unusedVariables false
set_option maxRecDepth 10000

variable {X : CallFn}

def slot (es : AL) (x : Nat) : CV := (aget es x).getD .nilSlice
theorem slot_aset (es : AL) (x y : Nat) (v : CV) : slot (aset es x v) y = if y = x then v else slot es y := by
  unfold slot
  rw [aget_aset]
  split <;> rfl

structure MM (H0 H : Heap) (b e : Nat) (es : AL) (fs : Nat → Nat) (ls : Nat → List CV) : Prop where
  m : MapIs H b es
  lb : b < H.next
  nb : H0.next ≤ b
  own : ∀ x, Own H (fs x) 1 e (slot es x) (ls x)
  nf : ∀ x, slot es x ≠ .nilSlice → H0.next ≤ fs x
  d : ∀ x y, x ≠ y → slot es x ≠ .nilSlice → slot es y ≠ .nilSlice → fs x ≠ fs y
  ok : HOk H
  ext : Ext H0.next H0 H
theorem MM.step {H0 H H' : Heap} {b e : Nat} {es : AL} {fs : Nat → Nat} {ls : Nat → List CV} (h : MM H0 H b e es fs ls) (hx : Ext H.next H H') (hk : HOk H') : MM H0 H' b e es fs ls :=
  ⟨h.m.ext hx h.lb, Nat.lt_of_lt_of_le h.lb hx.1, h.nb, fun x => (h.own x).ext hx (h.own x).lt, h.nf, h.d, hk, h.ext.trans (hx.le h.ext.1)⟩

theorem mm_append {H0 H : Heap} {b e ts c x : Nat} {es : AL} {fs : Nat → Nat} {ls : Nat → List CV} {y z : CV} {i : TypeInfo} (h : MM H0 H b e es fs ls) (hts : Tryz.prog.underlying ts = some (.slice e)) (hi : Tryz.prog.info? e = some i) (hs : i.size = 1) (hb : i.bytes ≤ 16) (hz : zeroC Tryz.prog e = some [z])
    (hc : c < H.next) (hg : H.get c = some (.cells [y] e none)) (hy : y.cells = [y]) (hy1 : y.single = true) (hx : x < 100) (hl : (ls x).length < 1000) :
    ∃ v' H' fs', appendC Tryz.prog ts ts H (slot es x) (.slice c 0 1 (.exact 1)) = some (v', H') ∧ MapIs H' b es ∧ H'.next = H.next + 1 ∧ (∀ b' o, b' < H.next → o.fam = none → H.get b' = some o → H'.get b' = some o) ∧
      MM H0 (H'.put b (.map (ents 0 (aset es x v')) (aset es x v').length)) b e (aset es x v') fs' (fun z => if z = x then ls z ++ [y] else ls z) := by
  have he : elemsC H 1 (.slice c 0 1 (.exact 1)) = some ([y].length, [y].flatMap CV.cells) := by simp [elemsC, hg, takeE, hy]
  have hroom : 2 * ((ls x).length + [y].length) * i.bytes ≤ 140737488355328 := by
    refine Nat.le_trans (Nat.mul_le_mul_left _ hb) ?_
    simp only [List.length_singleton]; omega
  obtain ⟨v', H', f', hap, hf1, hf2, hown, hok, hnext, hkeep⟩ := Own.append (P := Tryz.prog) (t0 := ts) (t1 := ts) (d := .slice e) (h.own x) h.ok he (fun u hu => by rw [List.mem_singleton.1 hu, hy]; rfl) (by simp) hts hts (fun _ => by simp) hi hs (by omega) hz rfl (by simp [hy, hy1]) hroom (by simp only [List.length_singleton]; omega)
  have hm' : MapIs H' b es := ⟨hkeep b _ h.lb h.m.get (fun _ g p e => by simp [CObj.fam] at e), h.m.lt⟩
  have hv' : v' ≠ .nilSlice := by
    rcases hown.2 with ⟨_, e⟩ | ⟨_, _, e, _⟩
    · simp at e
    · rw [e]; intro hh; cases hh
  have hnf' : H0.next ≤ f' := by
    by_cases hv : slot es x = .nilSlice
    · rw [hf1 hv]; exact h.ext.1
    · rw [hf2 hv]; exact h.nf x hv
  have hne : ∀ u, u ≠ x → slot es u ≠ .nilSlice → f' ≠ fs u := by
    intro u hu hv
    by_cases hv0 : slot es x = .nilSlice
    · rw [hf1 hv0]
      have := Own.fam_lt (h.own u) hv
      omega
    · rw [hf2 hv0]; exact h.d x u (Ne.symm hu) hv0 hv
  have hnot : ∀ {f sz e : Nat} {v : CV} {vs : List CV}, Own H' f sz e v vs → Own (H'.put b (.map (ents 0 (aset es x v')) (aset es x v').length)) f sz e v vs := by
    intro f sz e v vs ho
    refine ⟨ho.1, ?_⟩
    rcases ho.2 with ho | ⟨b', p, h1, h2, h3, h4, h5⟩
    · exact .inl ho
    · refine .inr ⟨b', p, h1, h2, h3, h4, ?_⟩
      rw [Heap.get_put, if_neg]
      · exact h5
      · rintro rfl; rw [hm'.get] at h5; cases h5
  have hkept : ∀ u, u ≠ x → Own H' (fs u) 1 e (slot es u) (ls u) := by
    intro u hu
    have ho := h.own u
    refine ⟨ho.1, ?_⟩
    rcases ho.2 with ho' | ⟨b', p, h1, h2, h3, h4, h5⟩
    · exact .inl ho'
    · refine .inr ⟨b', p, h1, h2, by omega, h4, hkeep b' _ h3 h5 (fun hv g q hg => ?_)⟩
      simp only [CObj.fam, Option.some.injEq, Prod.mk.injEq] at hg
      rw [← hg.1]
      exact h.d u x hu (by rw [h1]; intro hh; cases hh) hv
  refine ⟨v', H', fun u => if u = x then f' else fs u, hap, hm', hnext, fun b' o hb' hf ho => hkeep b' o hb' ho (fun _ g p e => by rw [hf] at e; cases e), (map_update (t := 85) (et := 27) u85 hm' hx).2, by show b < H'.next; have := h.lb; omega, h.nb, fun u => ?_, fun u hu => ?_, fun u w huw hu hw => ?_, Hok.put rfl hok, ?_⟩
  · rw [slot_aset]
    by_cases e1 : u = x
    · subst e1; simp only [if_true]; exact hnot hown
    · simp only [if_neg e1]; exact hnot (hkept u e1)
  · rw [slot_aset] at hu
    by_cases e1 : u = x
    · simp only [if_pos e1]; exact hnf'
    · rw [if_neg e1] at hu; simp only [if_neg e1]; exact h.nf u hu
  · rw [slot_aset] at hu hw
    by_cases e1 : u = x
    · have e2 : w ≠ x := fun e => huw (e1.trans e.symm)
      rw [if_neg e2] at hw
      simp only [if_pos e1, if_neg e2]; exact hne w e2 hw
    · rw [if_neg e1] at hu
      by_cases e2 : w = x
      · simp only [if_neg e1, if_pos e2]; exact (hne u e1 hu).symm
      · rw [if_neg e2] at hw
        simp only [if_neg e1, if_neg e2]; exact h.d u w huw hu hw
  · refine (h.ext.trans (keep_ext h.ok (by omega) h.ext.1 (h.nf x) (fun b' o hb' ho hf => hkeep b' o hb' ho hf))).trans (Ext.put h.nb)
end Go.Y

namespace Go.Y
open Go.K Go.Proofs
set_option linter.unusedSimpArgs false
set_option linter.unusedVariables false
set_option maxRecDepth 10000

variable {X : CallFn}

theorem go_loop3 {P : Program} {nt : Nat} {a b c d r : Code} {env : Env} {H : Heap} : go P X nt (.seq a (.seq b (.seq (.seq c d) r))) env H = andThen (go P X nt (.seq a (.seq b c)) env H) fun e H => andThen (go P X nt d e H) fun e H => go P X nt r e H := by
  rw [go_seq, go_seq, ← then_assoc]
  congr 1; funext e H
  rw [go_seq, go_seq, ← then_assoc]
  congr 1; funext e H
  rw [go_seq, go_seq, ← then_assoc]
theorem go_loop2 {P : Program} {nt : Nat} {a c d r : Code} {env : Env} {H : Heap} : go P X nt (.seq a (.seq (.seq c d) r)) env H = andThen (go P X nt (.seq a c) env H) fun e H => andThen (go P X nt d e H) fun e H => go P X nt r e H := by
  rw [go_seq, go_seq, ← then_assoc]
  congr 1; funext e H
  rw [go_seq, go_seq, ← then_assoc]
theorem g78 : isAggC Tryz.prog 78 = some false := by kernel_rfl
theorem fa80_0 (b off : Nat) : fieldAddrC Tryz.prog 80 (.ptr b off) 0 = some (.ptr b off) := by kernel_rfl
theorem fa80_1 (b off : Nat) : fieldAddrC Tryz.prog 80 (.ptr b off) 1 = some (.ptr b (off + 1)) := by kernel_rfl
def IsSl (l : CV) : Prop := l = .nilSlice ∨ ∃ b off n c, l = .slice b off n c
theorem _root_.Go.K.Has.isSl {H : Heap} {sz e : Nat} {v : CV} {vs : List CV} (h : Has H sz e v vs) : IsSl v := by
  rcases h.2 with ⟨e, _⟩ | ⟨b, off, cap, cs, fam, e, _⟩
  · exact .inl e
  · exact .inr ⟨_, _, _, _, e⟩
theorem build80 {l : CV} (h : IsSl l) (bm : Nat) : buildC Tryz.prog 80 [(0, l), (1, .map bm)] = some (.agg [l, .map bm]) := by
  rcases h with rfl | ⟨b, off, n, c, rfl⟩ <;> kernel_rfl
theorem z3' : zeroC Tryz.prog 3 = some [.int .i64 0] := z3
theorem mkm (t : Nat) (ρ : Operand → Option CV) : allocC Tryz.prog (.makeMap t none) ρ = some (.map [] 0, fun b => .map b) := rfl
theorem bxc (t : Nat) (x : Operand) (ρ : Operand → Option CV) : allocC Tryz.prog (.box t x) ρ = (ρ x).map fun v => (.cells v.cells t none, fun b => .ptr b 0) := rfl

theorem cbeq_nm (x : Nat) : cbeq 12 (nm x) (nm x) = true := by simp only [nm, cbeq_str]

/-- The relation i is read into a new variable. -/
theorem opn_r4 {env : Env} {H : Heap} {l : CV} {rs : Rels} {i : Nat} (h10 : env.get 10 = some l) (h12 : env.get 12 = some (.int .i64 i)) (hl : Has H 3 41 l (rs.map relCV)) (hi : i < rs.length) (hk : HOk H) :
    ∃ env' H', go Tryz.prog X 38 (sub (codeOf Tryz.f18) [true,true,false,true,false,false,true,true,false,false,false]) env H = some (.normal, env', H') ∧ H'.get H.next = some (.cells [.int .i64 rs[i].1, nm rs[i].2.1, nm rs[i].2.2] 41 none) ∧ H'.next = H.next + 1 ∧ HOk H' ∧ Ext H.next H H' ∧
      env'.get 4 = some (nI i) ∧ env'.get 5 = some (.ptr H.next 0) ∧ ∀ t, t < 14 → t ≠ 4 → t ≠ 5 → env'.get t = env.get t := by
  obtain ⟨b, off, cs, fam, hb, _, hidx, hget, hcells, hcell⟩ := hl.at (P := Tryz.prog) (t := 25) u24 s42 (i := i) (by simpa using hi)
  rw [List.getElem_map] at hcells
  have hcl : takeE 3 (cs.drop off) = some [.int .i64 rs[i].1, nm rs[i].2.1, nm rs[i].2.2] := hcells
  generalize hH2 : ((H.skip 1).put H.next (.cells [.int .i64 0, .str .empty, .str .empty] 41 none)).put H.next (.cells [.int .i64 rs[i].1, nm rs[i].2.1, nm rs[i].2.2] 41 none) = H2
  have hE2 : Ext H.next H H2 := by rw [← hH2]; exact (Ext.skip.trans (Ext.put (Nat.le_refl _))).trans (Ext.put (Nat.le_refl _))
  have hk2 : HOk H2 := by rw [← hH2]; exact Hok.put rfl (Hok.put rfl (Hok.skip 1 hk))
  have hn2 : H2.next = H.next + 1 := by rw [← hH2]; rfl
  have hg2 : H2.get H.next = some (.cells [.int .i64 rs[i].1, nm rs[i].2.1, nm rs[i].2.2] 41 none) := by rw [← hH2, Heap.get_put, if_pos rfl]
  suffices h : ∃ env', go Tryz.prog X 38 (sub (codeOf Tryz.f18) [true,true,false,true,false,false,true,true,false,false,false]) env H = some (.normal, env', H2) ∧ env'.get 4 = some (nI i) ∧ env'.get 5 = some (.ptr H.next 0) ∧ ∀ t, t < 14 → t ≠ 4 → t ≠ 5 → env'.get t = env.get t by
    obtain ⟨env', q1, q⟩ := h
    exact ⟨env', H2, q1, hg2, hn2, hk2, hE2, q⟩
  simp only [codeOf, Tryz.f18, sub, go_seq, go_region, opsSeq_step, opsSeq_guard, guardStep_true, guardStep_false, guardVal, opsSeq_nil, afterStep_some, afterStep_none, stepC, kindOf, quietC, evC, Nat.reduceLT, Tr.get_set, if_true, if_false, Nat.reduceEqDiff, Option.map_some, Option.bind_some, List.getElem?_toArray, List.getElem?_cons_zero, List.getElem?_cons_succ, ofVal, decide_true, decide_false, BEq.rfl, andThen_normal, andThen_exit, andThen_ret, inBlock_normal, inBlock_ret, go_skip, go_exit, go_ret, loudStep, isCall, loudC, targetC, evs, evParts, mapO, List.nil_append, List.append_nil, List.cons_append, loadC, Heap.skip_get, Heap.get_put, Heap.skip_next, Heap.put_next, h10, h12, hidx, hget, hcl, s42, g42, al42, store42, List.length_cons, List.length_nil, Nat.reduceAdd, hH2]
  refine ⟨_, rfl, by simp only [Tr.get_set, Nat.reduceEqDiff, if_true, if_false], by simp only [Tr.get_set, Nat.reduceEqDiff, if_true, if_false], fun t ht h4 h5 => ?_⟩
  simp only [Tr.get_set, h4, h5, show t ≠ 14 by omega, show t ≠ 15 by omega, show t ≠ 16 by omega, if_false]

/-- What open has made so far. -/
structure OP (H0 H : Heap) (bg bm : Nat) (l : CV) (es : AL) (fs : Nat → Nat) (ls : Nat → List CV) : Prop where
  mm : MM H0 H bm 3 es fs ls
  g : H.get bg = some (.cells [l, .map bm] 80 none)
  lg : bg < H.next
  ng : H0.next ≤ bg
  gm : bg ≠ bm

theorem opn_r6 {H0 H : Heap} {bg bm c i u lo : Nat} {l : CV} {k : Int} {es : AL} {fs : Nat → Nat} {ls : Nat → List CV} {env : Env} (h : OP H0 H bg bm l es fs ls) (hlo : lo < 100) (hl : (ls lo).length < 1000) (hc : H.get c = some (.cells [.int .i64 k, nm u, nm lo] 41 none)) (lc : c < H.next)
    (h3 : env.get 3 = some (.ptr bg 0)) (h4 : env.get 4 = some (nI i)) (h5 : env.get 5 = some (.ptr c 0)) :
    ∃ env' H' es' fs', go Tryz.prog X 38 (sub (codeOf Tryz.f18) [true,true,false,true,false,false,true,true,false,false,true,true,false]) env H = some (.normal, env', H') ∧ OP H0 H' bg bm l es' fs' (fun z => if z = lo then ls z ++ [nI i] else ls z) ∧ ∀ t, t < 14 → env'.get t = env.get t := by
  generalize hH1 : (H.skip 17).put (H.next + 14) (.cells [nI i] 3 none) = H1
  have x1 : Ext H.next H H1 := by rw [← hH1]; exact Ext.skip.trans (Ext.put (by omega))
  have k1 : HOk H1 := by rw [← hH1]; exact Hok.put rfl (Hok.skip 17 h.mm.ok)
  have n1 : H1.next = H.next + 17 := by rw [← hH1]; rfl
  have h1 := h.mm.step x1 k1
  obtain ⟨it, i1, i2, i3⟩ := i3
  obtain ⟨v', H2, fs', hap, hm2, n2, keep, hmm⟩ := mm_append (ts := 34) h1 u26 i1 i2 (by omega) z3 (c := H.next + 14) (y := nI i) (by omega) (by rw [← hH1, Heap.get_put, if_pos rfl]) rfl rfl hlo hl
  have hup := (map_update (t := 78) (v := v') u78 hm2 hlo).1
  have hlk : ∀ G, Ext H.next H G → lookupC Tryz.prog 78 G (.map bm) (nm lo) false = some (slot es lo) := fun G hG => map_lookup (t := 78) u78 zi34 (h.mm.m.ext hG h.mm.lb) hlo
  have hg2 : H2.get bg = some (.cells [l, .map bm] 80 none) := keep bg _ (by have := h.lg; omega) rfl (x1.2 _ _ h.lg h.g)
  have hc2 : H2.get c = some (.cells [.int .i64 k, nm u, nm lo] 41 none) := keep c _ (by omega) rfl (x1.2 _ _ lc hc)
  suffices key : ∃ env', go Tryz.prog X 38 (sub (codeOf Tryz.f18) [true,true,false,true,false,false,true,true,false,false,true,true,false]) env H = some (.normal, env', H2.put bm (.map (ents 0 (aset es lo v')) (aset es lo v').length)) ∧ ∀ t, t < 14 → env'.get t = env.get t by
    obtain ⟨env', q1, q2⟩ := key
    exact ⟨env', _, _, fs', q1, ⟨hmm, by rw [Heap.get_put, if_neg h.gm]; exact hg2, by show bg < H2.next; have := h.lg; omega, h.ng, h.gm⟩, q2⟩
  simp only [codeOf, Tryz.f18, sub]
  rw [go_planned [(6,0,[3],false),(7,0,[26],false),(8,0,[27],false),(9,0,[28],false),(10,0,[5],false),(11,0,[30],false),(12,0,[29,31],false),(13,0,[4],false),(14,0,[33],false),(15,0,[32,34],true),(0,0,[3],false),(1,0,[20],false),(2,0,[21],false),(3,0,[22],false),(4,0,[5],false),(5,0,[24],false),(16,1,[23,25,35],true)] rfl (by kernel_rfl)]
  simp only [drawStep_guard, guardDS_true, guardDS_false, guardVal, BEq.rfl, planRun_cons, planRun_nil, planStep, planEnd, List.getElem?_cons_zero, List.getElem?_cons_succ, drawStep_eq, kindOf, quietAt, quietC, evR, evC, memN, beq_dec, Nat.reduceEqDiff, decide_true, decide_false, setDS_some, loudDS_some, loudDS_none, allocDS_some, Nat.reduceLT, Tr.get_set, if_true, if_false, Option.map_some, Option.bind_some, List.length_cons, List.length_nil, sameAt, Nat.reduceAdd, Nat.reduceSub, ofVal, loadC, Heap.skip_get, Heap.get_put, loudStep, isCall, targetC, evs, evParts, mapO, List.cons_append, List.nil_append, List.append_nil, putAll, ne_eq, reduceCtorEq, not_false_eq_true, Int.reduceEq, eq_self, cbeq_int, cbeq_ptr, cbeq_str, cbeq_bool, cbeq_map, cbeq_slice, cbeq_nilSlice, Bool.and_self, Bool.and_true, Int.reduceNeg, List.append_eq, loudC, List.getElem?_toArray, h3, h4, h5, fa80_1, fa42_2, g78, g9, h.g, hc, Nat.zero_add, bs26', CV.cells, hlk _ Ext.skip, hH1, hap, hup, hg2, hc2, cbeq_nm]
  refine ⟨_, rfl, fun t ht => ?_⟩
  simp only [Tr.get_set]
  simp only [show t ≠ 20 by omega, show t ≠ 21 by omega, show t ≠ 22 by omega, show t ≠ 23 by omega, show t ≠ 24 by omega, show t ≠ 25 by omega, show t ≠ 26 by omega, show t ≠ 27 by omega, show t ≠ 28 by omega, show t ≠ 29 by omega, show t ≠ 30 by omega, show t ≠ 31 by omega, show t ≠ 32 by omega, show t ≠ 33 by omega, show t ≠ 34 by omega, show t ≠ 35 by omega, if_false]

theorem OP.step {H0 H H' : Heap} {bg bm : Nat} {l : CV} {es : AL} {fs : Nat → Nat} {ls : Nat → List CV} (h : OP H0 H bg bm l es fs ls) (hx : Ext H.next H H') (hk : HOk H') : OP H0 H' bg bm l es fs ls :=
  ⟨h.mm.step hx hk, hx.2 _ _ h.lg h.g, Nat.lt_of_lt_of_le h.lg hx.1, h.ng, h.gm⟩

theorem open_ok (hX18 : X 18 = fun _ _ => none) {l : CV} {rs : Rels} {H : Heap} (hr : rs.length ≤ 30) (hR : ∀ r ∈ rs, Right r) (hl : Has H 3 41 l (rs.map relCV)) (hk : HOk H) :
    ∃ bg bm H', calls Tryz.prog X 18 [l] H = some (.ptr bg 0, H') ∧ H'.get bg = some (.cells [l, .map bm] 80 none) ∧ bg < H'.next ∧ H.next ≤ bg ∧ HOk H' ∧ Ext H.next H H' := by
  have h0 : (envOf [l] 0 .nil).get 0 = some l := by simp [envOf, Tr.get_set]
  have hlen := hl.len (P := Tryz.prog) u24
  rw [List.length_map] at hlen
  have hlc : l.cells = [l] := by rcases hl.isSl with rfl | ⟨_, _, _, _, rfl⟩ <;> rfl
  generalize hH1 : (((H.skip 1).put H.next (.map [] 0)).skip 1).put (H.next + 1) (.cells [l, .map H.next] 80 none) = H1
  have x1 : Ext H.next H H1 := by rw [← hH1]; exact ((Ext.skip.trans (Ext.put (Nat.le_refl _))).trans Ext.skip).trans (Ext.put (by omega))
  have k1 : HOk H1 := by rw [← hH1]; exact Hok.put rfl (Hok.skip 1 (Hok.put rfl (Hok.skip 1 hk)))
  have n1 : H1.next = H.next + 2 := by rw [← hH1]; rfl
  have m1 : H1.get H.next = some (.map [] 0) := by rw [← hH1, Heap.get_put, if_neg (by omega), Heap.skip_get, Heap.get_put, if_pos rfl]
  have b1 : H1.get (H.next + 1) = some (.cells [l, .map H.next] 80 none) := by rw [← hH1, Heap.get_put, if_pos rfl]
  have hOP : OP H H1 (H.next + 1) H.next l [] (fun _ => 0) (fun _ => []) :=
    ⟨⟨⟨m1, fun y hy => by simp [keysOf] at hy⟩, by omega, Nat.le_refl _, fun x => ⟨by simp, .inl ⟨rfl, rfl⟩⟩, fun x hx => absurd rfl hx, fun x y _ hx => absurd rfl hx, k1, x1⟩, b1, by omega, by omega, by omega⟩
  have ga : ∃ e, go Tryz.prog X 38 (.seq (sub (codeOf Tryz.f18) [false]) (.seq (sub (codeOf Tryz.f18) [true,false]) (sub (codeOf Tryz.f18) [true,true,false,false]))) (envOf [l] 0 .nil) H = some (.normal, e, H1) ∧ e.get 3 = some (.ptr (H.next + 1) 0) ∧ e.get 10 = some l ∧ e.get 11 = some (.int .i64 (rs.length : Nat)) ∧ e.get 12 = some (.int .i64 (0 : Nat)) := by
    simp only [codeOf, Tryz.f18, sub, go_seq, go_region, opsSeq_step, opsSeq_guard, guardStep_true, guardStep_false, guardVal, opsSeq_nil, afterStep_some, afterStep_none, stepC, kindOf, quietC, evC, Nat.reduceLT, Tr.get_set, if_true, if_false, Nat.reduceEqDiff, Option.map_some, Option.bind_some, List.getElem?_toArray, List.getElem?_cons_zero, List.getElem?_cons_succ, ofVal, decide_true, decide_false, BEq.rfl, andThen_normal, andThen_exit, andThen_ret, inBlock_normal, inBlock_ret, go_skip, go_exit, go_ret, loudStep, isCall, loudC, targetC, evs, evParts, mapO, List.nil_append, List.append_nil, List.cons_append, loadC, Heap.skip_get, Heap.get_put, Heap.skip_next, Heap.put_next, h0, mkm, bxc, build80 hl.isSl, CV.cells, hlen, hH1]
    refine ⟨_, rfl, by simp only [Tr.get_set, Nat.reduceEqDiff, if_false, if_true], by simp only [Tr.get_set, Nat.reduceEqDiff, if_false, if_true], by simp only [Tr.get_set, Nat.reduceEqDiff, if_false, if_true], by simp only [Tr.get_set, if_true]; rfl⟩
  obtain ⟨e1, ga, a3, a10, a11, a12⟩ := ga
  have hL := range_loop (P := Tryz.prog) (X := X) (nt := 38) (code := sub (codeOf Tryz.f18) [true,true,false,true,false]) (hd := sub (codeOf Tryz.f18) [true,true,false,true,false,false,false]) (body := sub (codeOf Tryz.f18) [true,true,false,true,false,false,true,true,false,false]) (inc := sub (codeOf Tryz.f18) [true,true,false,true,false,false,true,true,true]) (ti := 12) (tn := 11) (tc := 13) (tx := 36) (e := 0) (b := 1) rfl (by omega)
    (fun env H i n h1 h2 => by simp only [codeOf, Tryz.f18, sub, go_seq, go_region, opsSeq_step, opsSeq_guard, guardStep_true, guardStep_false, guardVal, opsSeq_nil, afterStep_some, afterStep_none, stepC, kindOf, quietC, evC, Nat.reduceLT, Tr.get_set, if_true, if_false, Nat.reduceEqDiff, Option.map_some, Option.bind_some, List.getElem?_toArray, List.getElem?_cons_zero, List.getElem?_cons_succ, ofVal, decide_true, decide_false, BEq.rfl, andThen_normal, andThen_exit, andThen_ret, inBlock_normal, inBlock_ret, go_skip, go_exit, go_ret, loudStep, isCall, loudC, targetC, evs, evParts, mapO, List.nil_append, List.append_nil, List.cons_append, loadC, Heap.skip_get, Heap.get_put, Heap.skip_next, Heap.put_next, h1, h2, bin_lss]) (fun env H i h1 hw => by simp only [codeOf, Tryz.f18, sub, go_seq, go_region, opsSeq_step, opsSeq_guard, guardStep_true, guardStep_false, guardVal, opsSeq_nil, afterStep_some, afterStep_none, stepC, kindOf, quietC, evC, Nat.reduceLT, Tr.get_set, if_true, if_false, Nat.reduceEqDiff, Option.map_some, Option.bind_some, List.getElem?_toArray, List.getElem?_cons_zero, List.getElem?_cons_succ, ofVal, decide_true, decide_false, BEq.rfl, andThen_normal, andThen_exit, andThen_ret, inBlock_normal, inBlock_ret, go_skip, go_exit, go_ret, loudStep, isCall, loudC, targetC, evs, evParts, mapO, List.nil_append, List.append_nil, List.cons_append, loadC, Heap.skip_get, Heap.get_put, Heap.skip_next, Heap.put_next, h1, bin_add, hw]) (by omega) (n := rs.length) (by omega)
    (fun k e G => e.get 10 = some l ∧ e.get 3 = some (.ptr (H.next + 1) 0) ∧ ∃ es fs ls, OP H G (H.next + 1) H.next l es fs ls ∧ ∀ z, (ls z).length ≤ k) (fun _ _ => False)
    (fun k e G t w ht ⟨q10, q3, r⟩ => ⟨by rcases ht with rfl | rfl | rfl <;> simp only [Tr.get_set, Nat.reduceEqDiff, if_false, q10], by rcases ht with rfl | rfl | rfl <;> simp only [Tr.get_set, Nat.reduceEqDiff, if_false, q3], r⟩)
    (fun k e G hk' ⟨q10, q3, es, fs, ls, hO, hls⟩ h1 h2 => by
      left
      obtain ⟨e2, G2, g1, p1, p2, p3, p4, p5, p6, p7⟩ := opn_r4 (X := X) q10 h1 (hl.ext hO.mm.ext hl.lt) hk' hO.mm.ok
      have hO2 := hO.step p4 p3
      have hrk := hR _ (List.getElem_mem hk')
      have hcode : sub (codeOf Tryz.f18) [true,true,false,true,false,false,true,true,false,false] = .seq (sub (codeOf Tryz.f18) [true,true,false,true,false,false,true,true,false,false,false]) (.seq (sub (codeOf Tryz.f18) [true,true,false,true,false,false,true,true,false,false,true,false]) (.cond (.tmp 19) (sub (codeOf Tryz.f18) [true,true,false,true,false,false,true,true,false,false,true,true,false]) .skip)) := rfl
      have gb : ∃ e3, go Tryz.prog X 38 (sub (codeOf Tryz.f18) [true,true,false,true,false,false,true,true,false,false,true,false]) e2 G2 = some (.normal, e3, G2) ∧ e3.get 19 = some (.bool (decide (rs[k].1 ≠ 4))) ∧ ∀ t, t < 14 → e3.get t = e2.get t := by
        have hd : decide ((rs[k].1 : Int) ≠ 4) = decide (rs[k].1 ≠ 4) := by
          by_cases h : rs[k].1 = 4
          · simp [h]
          · have : ¬ ((rs[k].1 : Nat) : Int) = 4 := by omega
            simp [h, this]
        simp only [codeOf, Tryz.f18, sub, go_seq, go_region, opsSeq_step, opsSeq_guard, guardStep_true, guardStep_false, guardVal, opsSeq_nil, afterStep_some, afterStep_none, stepC, kindOf, quietC, evC, Nat.reduceLT, Tr.get_set, if_true, if_false, Nat.reduceEqDiff, Option.map_some, Option.bind_some, List.getElem?_toArray, List.getElem?_cons_zero, List.getElem?_cons_succ, ofVal, decide_true, decide_false, BEq.rfl, andThen_normal, andThen_exit, andThen_ret, inBlock_normal, inBlock_ret, go_skip, go_exit, go_ret, loudStep, isCall, loudC, targetC, evs, evParts, mapO, List.nil_append, List.append_nil, List.cons_append, loadC, Heap.skip_get, Heap.get_put, Heap.skip_next, Heap.put_next, p6, fa42_0, g3, p1, bin_neq, hd]
        refine ⟨_, rfl, by simp only [Tr.get_set, if_true], fun t ht => ?_⟩
        simp only [Tr.get_set, show t ≠ 17 by omega, show t ≠ 18 by omega, show t ≠ 19 by omega, if_false]
      obtain ⟨e3, gb, b19, bq⟩ := gb
      have hq3 : ∀ t, t < 14 → t ≠ 4 → t ≠ 5 → e3.get t = e.get t := fun t ht h4 h5 => (bq t ht).trans (p7 t ht h4 h5)
      by_cases h4 : rs[k].1 = 4
      · refine ⟨.normal, e3, G2, ?_, .inl rfl, ⟨(hq3 10 (by omega) (by omega) (by omega)).trans q10, (hq3 3 (by omega) (by omega) (by omega)).trans q3, es, fs, ls, hO2, fun z => Nat.le_succ_of_le (hls z)⟩, (hq3 12 (by omega) (by omega) (by omega)).trans h1, (hq3 11 (by omega) (by omega) (by omega)).trans h2⟩
        rw [hcode, go_seq, g1, andThen_normal, go_seq, gb, andThen_normal, go_cond _ _ _ (v := false) (by simp only [evC, b19]; simp [h4]), if_neg (by simp), go_skip]
      · obtain ⟨e4, G4, es', fs', gc, hO4, cq⟩ := opn_r6 (X := X) hO2 (lo := rs[k].2.2) (u := rs[k].2.1) (k := rs[k].1) (i := k) (c := G.next) (env := e3) (by have := hrk.2.2.2.1; omega) (by have := hls rs[k].2.2; omega) p1 (by omega) ((bq 3 (by omega)).trans ((p7 3 (by omega) (by omega) (by omega)).trans q3)) ((bq 4 (by omega)).trans p5) ((bq 5 (by omega)).trans p6)
        have hq4 : ∀ t, t < 14 → t ≠ 4 → t ≠ 5 → e4.get t = e.get t := fun t ht h4 h5 => (cq t ht).trans (hq3 t ht h4 h5)
        refine ⟨.normal, e4, G4, ?_, .inl rfl, ⟨(hq4 10 (by omega) (by omega) (by omega)).trans q10, (hq4 3 (by omega) (by omega) (by omega)).trans q3, es', fs', _, hO4, fun z => ?_⟩, (hq4 12 (by omega) (by omega) (by omega)).trans h1, (hq4 11 (by omega) (by omega) (by omega)).trans h2⟩
        · rw [hcode, go_seq, g1, andThen_normal, go_seq, gb, andThen_normal, go_cond _ _ _ (v := true) (by simp only [evC, b19]; simp [h4]), if_pos rfl, gc]
        · have := hls z
          split
          · simp only [List.length_append, List.length_singleton]; omega
          · omega)
  rcases hL rs.length 0 e1 H1 (by omega) ⟨a10, a3, [], _, _, hOP, fun z => Nat.le_refl _⟩ a12 a11 with ⟨e2, H2, g, _, c3, es, fs, ls, hO, _⟩ | ⟨_, _, _, ff⟩
  · refine ⟨H.next + 1, H.next, H2, ?_, hO.g, hO.lg, by omega, hO.mm.ok, hO.mm.ext⟩
    have hcode : codeOf Tryz.f18 = .seq (sub (codeOf Tryz.f18) [false]) (.seq (sub (codeOf Tryz.f18) [true,false]) (.seq (.seq (sub (codeOf Tryz.f18) [true,true,false,false]) (.block 0 (sub (codeOf Tryz.f18) [true,true,false,true,false]))) (.seq (sub (codeOf Tryz.f18) [true,true,true,false]) .ret))) := rfl
    have key : ∃ e, go Tryz.prog X 38 (codeOf Tryz.f18) (envOf [l] 0 .nil) H = some (.ret, e, H2) ∧ e.get 2 = some (.ptr (H.next + 1) 0) := by
      rw [go_code hcode, go_loop3, ga, andThen_normal, go_block, g, inBlock_exit, if_pos rfl, andThen_normal]
      simp only [codeOf, Tryz.f18, sub, go_seq, go_region, opsSeq_step, opsSeq_guard, guardStep_true, guardStep_false, guardVal, opsSeq_nil, afterStep_some, afterStep_none, stepC, kindOf, quietC, evC, Nat.reduceLT, Tr.get_set, if_true, if_false, Nat.reduceEqDiff, Option.map_some, Option.bind_some, List.getElem?_toArray, List.getElem?_cons_zero, List.getElem?_cons_succ, ofVal, decide_true, decide_false, BEq.rfl, andThen_normal, andThen_exit, andThen_ret, inBlock_normal, inBlock_ret, go_skip, go_exit, go_ret, loudStep, isCall, loudC, targetC, evs, evParts, mapO, List.nil_append, List.append_nil, List.cons_append, loadC, Heap.skip_get, Heap.get_put, Heap.skip_next, Heap.put_next, c3]
      exact ⟨_, rfl, by simp only [Tr.get_set, if_true]⟩
    obtain ⟨e, key, e2'⟩ := key
    exact calls_ret (by rw [hX18]) Tryz.func18 rfl (by decide) (nt := 38) rfl key (results_one e2')
  · exact ff.elim
end Go.Y

namespace Go.Y
open Go.K Go.Proofs
set_option linter.unusedSimpArgs false
set_option linter.unusedVariables false
set_option maxRecDepth 10000

variable {X : CallFn}

/-- The units from which relations lead to one. -/
def lows (rs : Rels) (z : Nat) : List Nat := (rs.filter fun r => decide (r.1 ≠ 4 ∧ r.2.1 = z)).map (·.2.2)
theorem lows_snoc (rs : Rels) (r : Nat × Nat × Nat) (z : Nat) : lows (rs ++ [r]) z = if r.1 ≠ 4 ∧ r.2.1 = z then lows rs z ++ [r.2.2] else lows rs z := by
  unfold lows
  rw [List.filter_append]
  by_cases h : r.1 ≠ 4 ∧ r.2.1 = z
  · rw [if_pos h]; simp [h]
  · rw [if_neg h]; simp [h]
theorem lows_length (rs : Rels) (z : Nat) : (lows rs z).length ≤ rs.length := by
  unfold lows; rw [List.length_map]; exact List.length_filter_le _ _
theorem g85 : isAggC Tryz.prog 85 = some false := by kernel_rfl
theorem g47 : isAggC Tryz.prog 25 = some false := by kernel_rfl
theorem bs27 (x : Operand) (ρ : Operand → Option CV) : allocC Tryz.prog (.buildSlice 27 1 #[(0, x)]) ρ = (ρ x).bind fun v => if v.cells.length = 0 + 1 then some (.cells v.cells 9 none, fun b => .slice b 0 1 (.exact 1)) else none :=
  allocC_one u30 s9 z9 rfl (by omega) x ρ

theorem dst_r4 {env : Env} {H : Heap} {l : CV} {rs : Rels} {i : Nat} (h10 : env.get 18 = some l) (h12 : env.get 20 = some (.int .i64 i)) (hl : Has H 3 41 l (rs.map relCV)) (hi : i < rs.length) (hk : HOk H) :
    ∃ env' H', go Tryz.prog X 81 (sub (codeOf Tryz.f21) [true,true,false,true,false,false,true,true,false,false,false]) env H = some (.normal, env', H') ∧ H'.get H.next = some (.cells [.int .i64 rs[i].1, nm rs[i].2.1, nm rs[i].2.2] 41 none) ∧ H'.next = H.next + 1 ∧ HOk H' ∧ Ext H.next H H' ∧
      env'.get 7 = some (.ptr H.next 0) ∧ ∀ t, t < 22 → t ≠ 7 → env'.get t = env.get t := by
  obtain ⟨b, off, cs, fam, hb, _, hidx, hget, hcells, hcell⟩ := hl.at (P := Tryz.prog) (t := 25) u24 s42 (i := i) (by simpa using hi)
  rw [List.getElem_map] at hcells
  have hcl : takeE 3 (cs.drop off) = some [.int .i64 rs[i].1, nm rs[i].2.1, nm rs[i].2.2] := hcells
  generalize hH2 : ((H.skip 1).put H.next (.cells [.int .i64 0, .str .empty, .str .empty] 41 none)).put H.next (.cells [.int .i64 rs[i].1, nm rs[i].2.1, nm rs[i].2.2] 41 none) = H2
  have hE2 : Ext H.next H H2 := by rw [← hH2]; exact (Ext.skip.trans (Ext.put (Nat.le_refl _))).trans (Ext.put (Nat.le_refl _))
  have hk2 : HOk H2 := by rw [← hH2]; exact Hok.put rfl (Hok.put rfl (Hok.skip 1 hk))
  have hn2 : H2.next = H.next + 1 := by rw [← hH2]; rfl
  have hg2 : H2.get H.next = some (.cells [.int .i64 rs[i].1, nm rs[i].2.1, nm rs[i].2.2] 41 none) := by rw [← hH2, Heap.get_put, if_pos rfl]
  suffices h : ∃ env', go Tryz.prog X 81 (sub (codeOf Tryz.f21) [true,true,false,true,false,false,true,true,false,false,false]) env H = some (.normal, env', H2) ∧ env'.get 7 = some (.ptr H.next 0) ∧ ∀ t, t < 22 → t ≠ 7 → env'.get t = env.get t by
    obtain ⟨env', q1, q⟩ := h
    exact ⟨env', H2, q1, hg2, hn2, hk2, hE2, q⟩
  simp only [codeOf, Tryz.f21, sub, go_seq, go_region, opsSeq_step, opsSeq_guard, guardStep_true, guardStep_false, guardVal, opsSeq_nil, afterStep_some, afterStep_none, stepC, kindOf, quietC, evC, Nat.reduceLT, Tr.get_set, if_true, if_false, Nat.reduceEqDiff, Option.map_some, Option.bind_some, List.getElem?_toArray, List.getElem?_cons_zero, List.getElem?_cons_succ, ofVal, decide_true, decide_false, BEq.rfl, andThen_normal, andThen_exit, andThen_ret, inBlock_normal, inBlock_ret, go_skip, go_exit, go_ret, loudStep, isCall, loudC, targetC, evs, evParts, mapO, List.nil_append, List.append_nil, List.cons_append, loadC, Heap.skip_get, Heap.get_put, Heap.skip_next, Heap.put_next, h10, h12, hidx, hget, hcl, s42, g42, al42, store42, List.length_cons, List.length_nil, Nat.reduceAdd, hH2]
  refine ⟨_, rfl, by simp only [Tr.get_set, Nat.reduceEqDiff, if_true, if_false], fun t ht h5 => ?_⟩
  simp only [Tr.get_set, h5, show t ≠ 22 by omega, show t ≠ 23 by omega, if_false]

theorem dst_r6 {H0 H : Heap} {bi c u lo : Nat} {k : Int} {es : AL} {fs : Nat → Nat} {ls : Nat → List CV} {env : Env} (h : MM H0 H bi 9 es fs ls) (hu : u < 100) (hl : (ls u).length < 1000) (hc : H.get c = some (.cells [.int .i64 k, nm u, nm lo] 41 none)) (lc : c < H.next)
    (h5 : env.get 5 = some (.map bi)) (h7 : env.get 7 = some (.ptr c 0)) :
    ∃ env' H' es' fs', go Tryz.prog X 81 (sub (codeOf Tryz.f21) [true,true,false,true,false,false,true,true,false,false,true,true,false]) env H = some (.normal, env', H') ∧ MM H0 H' bi 9 es' fs' (fun z => if z = u then ls z ++ [nm lo] else ls z) ∧ ∀ t, t < 22 → env'.get t = env.get t := by
  generalize hH1 : (H.skip 12).put (H.next + 9) (.cells [nm lo] 9 none) = H1
  have x1 : Ext H.next H H1 := by rw [← hH1]; exact Ext.skip.trans (Ext.put (by omega))
  have k1 : HOk H1 := by rw [← hH1]; exact Hok.put rfl (Hok.skip 12 h.ok)
  have n1 : H1.next = H.next + 12 := by rw [← hH1]; rfl
  have h1 := h.step x1 k1
  obtain ⟨it, i1, i2, i3⟩ := i9
  obtain ⟨v', H2, fs', hap, hm2, n2, keep, hmm⟩ := mm_append (ts := 27) h1 u30 i1 i2 (by omega) z9 (c := H.next + 9) (y := nm lo) (by omega) (by rw [← hH1, Heap.get_put, if_pos rfl]) rfl rfl hu hl
  have hup := (map_update (t := 85) (v := v') u85 hm2 hu).1
  have hlk : ∀ G, Ext H.next H G → lookupC Tryz.prog 85 G (.map bi) (nm u) false = some (slot es u) := fun G hG => map_lookup (t := 85) u85 zi27 (h.m.ext hG h.lb) hu
  have hc2 : H2.get c = some (.cells [.int .i64 k, nm u, nm lo] 41 none) := keep c _ (by omega) rfl (x1.2 _ _ lc hc)
  suffices key : ∃ env', go Tryz.prog X 81 (sub (codeOf Tryz.f21) [true,true,false,true,false,false,true,true,false,false,true,true,false]) env H = some (.normal, env', H2.put bi (.map (ents 0 (aset es u v')) (aset es u v').length)) ∧ ∀ t, t < 22 → env'.get t = env.get t by
    obtain ⟨env', q1, q2⟩ := key
    exact ⟨env', _, _, fs', q1, hmm, q2⟩
  simp only [codeOf, Tryz.f21, sub]
  rw [go_planned [(3,0,[5],false),(4,0,[7],false),(5,0,[31],false),(6,0,[30,32],false),(7,0,[7],false),(8,0,[34],false),(9,0,[35],false),(10,0,[33,36],true),(0,0,[5],false),(1,0,[7],false),(2,0,[28],false),(11,1,[27,29,37],true)] rfl (by kernel_rfl)]
  simp only [drawStep_guard, guardDS_true, guardDS_false, guardVal, BEq.rfl, planRun_cons, planRun_nil, planStep, planEnd, List.getElem?_cons_zero, List.getElem?_cons_succ, drawStep_eq, kindOf, quietAt, quietC, evR, evC, memN, beq_dec, Nat.reduceEqDiff, decide_true, decide_false, setDS_some, loudDS_some, loudDS_none, allocDS_some, Nat.reduceLT, Tr.get_set, if_true, if_false, Option.map_some, Option.bind_some, List.length_cons, List.length_nil, sameAt, Nat.reduceAdd, Nat.reduceSub, ofVal, loadC, Heap.skip_get, Heap.get_put, loudStep, isCall, targetC, evs, evParts, mapO, List.cons_append, List.nil_append, List.append_nil, putAll, ne_eq, reduceCtorEq, not_false_eq_true, Int.reduceEq, eq_self, cbeq_int, cbeq_ptr, cbeq_str, cbeq_bool, cbeq_map, cbeq_slice, cbeq_nilSlice, Bool.and_self, Bool.and_true, Int.reduceNeg, List.append_eq, loudC, List.getElem?_toArray, h5, h7, fa42_1, fa42_2, g9, hc, Nat.zero_add, bs27, hlk _ Ext.skip, nm_cells, hH1, hap, hup, hc2, cbeq_nm]
  refine ⟨_, rfl, fun t ht => ?_⟩
  simp only [Tr.get_set]
  simp only [show t ≠ 27 by omega, show t ≠ 28 by omega, show t ≠ 29 by omega, show t ≠ 30 by omega, show t ≠ 31 by omega, show t ≠ 32 by omega, show t ≠ 33 by omega, show t ≠ 34 by omega, show t ≠ 35 by omega, show t ≠ 36 by omega, show t ≠ 37 by omega, if_false]

theorem dst_into {H0 H : Heap} {bi : Nat} {l : CV} {rs : Rels} {env : Env} (hr : rs.length ≤ 30) (hR : ∀ r ∈ rs, Right r) (hl : Has H0 3 41 l (rs.map relCV)) (hm : MM H0 H bi 9 [] (fun _ => 0) (fun _ => []))
    (h5 : env.get 5 = some (.map bi)) (h18 : env.get 18 = some l) (h19 : env.get 19 = some (.int .i64 (rs.length : Nat))) (h20 : env.get 20 = some (.int .i64 (0 : Nat))) :
    ∃ env' H' es fs, go Tryz.prog X 81 (sub (codeOf Tryz.f21) [true,true,false,true,false]) env H = some (.exit 0, env', H') ∧ MM H0 H' bi 9 es fs (fun z => (lows rs z).map nm) ∧ env'.get 0 = env.get 0 ∧ env'.get 1 = env.get 1 ∧ env'.get 5 = some (.map bi) := by
  have hL := range_loop (P := Tryz.prog) (X := X) (nt := 81) (code := sub (codeOf Tryz.f21) [true,true,false,true,false]) (hd := sub (codeOf Tryz.f21) [true,true,false,true,false,false,false]) (body := sub (codeOf Tryz.f21) [true,true,false,true,false,false,true,true,false,false]) (inc := sub (codeOf Tryz.f21) [true,true,false,true,false,false,true,true,true]) (ti := 20) (tn := 19) (tc := 21) (tx := 38) (e := 0) (b := 1) rfl (by omega)
    (fun env H i n h1 h2 => by simp only [codeOf, Tryz.f21, sub, go_seq, go_region, opsSeq_step, opsSeq_guard, guardStep_true, guardStep_false, guardVal, opsSeq_nil, afterStep_some, afterStep_none, stepC, kindOf, quietC, evC, Nat.reduceLT, Tr.get_set, if_true, if_false, Nat.reduceEqDiff, Option.map_some, Option.bind_some, List.getElem?_toArray, List.getElem?_cons_zero, List.getElem?_cons_succ, ofVal, decide_true, decide_false, BEq.rfl, andThen_normal, andThen_exit, andThen_ret, inBlock_normal, inBlock_ret, go_skip, go_exit, go_ret, loudStep, isCall, loudC, targetC, evs, evParts, mapO, List.nil_append, List.append_nil, List.cons_append, loadC, Heap.skip_get, Heap.get_put, Heap.skip_next, Heap.put_next, h1, h2, bin_lss]) (fun env H i h1 hw => by simp only [codeOf, Tryz.f21, sub, go_seq, go_region, opsSeq_step, opsSeq_guard, guardStep_true, guardStep_false, guardVal, opsSeq_nil, afterStep_some, afterStep_none, stepC, kindOf, quietC, evC, Nat.reduceLT, Tr.get_set, if_true, if_false, Nat.reduceEqDiff, Option.map_some, Option.bind_some, List.getElem?_toArray, List.getElem?_cons_zero, List.getElem?_cons_succ, ofVal, decide_true, decide_false, BEq.rfl, andThen_normal, andThen_exit, andThen_ret, inBlock_normal, inBlock_ret, go_skip, go_exit, go_ret, loudStep, isCall, loudC, targetC, evs, evParts, mapO, List.nil_append, List.append_nil, List.cons_append, loadC, Heap.skip_get, Heap.get_put, Heap.skip_next, Heap.put_next, h1, bin_add, hw]) (by omega) (n := rs.length) (by omega)
    (fun k e G => e.get 18 = some l ∧ e.get 5 = some (.map bi) ∧ (e.get 0 = env.get 0 ∧ e.get 1 = env.get 1) ∧ ∃ es fs, MM H0 G bi 9 es fs (fun z => (lows (rs.take k) z).map nm)) (fun _ _ => False)
    (fun k e G t w ht ⟨q10, q3, ⟨q0, q1⟩, r⟩ => ⟨by rcases ht with rfl | rfl | rfl <;> simp only [Tr.get_set, Nat.reduceEqDiff, if_false, q10], by rcases ht with rfl | rfl | rfl <;> simp only [Tr.get_set, Nat.reduceEqDiff, if_false, q3], ⟨by rcases ht with rfl | rfl | rfl <;> simp only [Tr.get_set, Nat.reduceEqDiff, if_false, q0], by rcases ht with rfl | rfl | rfl <;> simp only [Tr.get_set, Nat.reduceEqDiff, if_false, q1]⟩, r⟩)
    (fun k e G hk' ⟨q10, q3, ⟨q0, q1⟩, es, fs, hO⟩ h1 h2 => by
      left
      obtain ⟨e2, G2, g1, p1, p2, p3, p4, p6, p7⟩ := dst_r4 (X := X) q10 h1 (hl.ext hO.ext hl.lt) hk' hO.ok
      have hO2 := hO.step p4 p3
      have hrk := hR _ (List.getElem_mem hk')
      have htk : rs.take (k + 1) = rs.take k ++ [rs[k]] := by rw [List.take_add_one, List.getElem?_eq_getElem hk', Option.toList_some]
      have hcode : sub (codeOf Tryz.f21) [true,true,false,true,false,false,true,true,false,false] = .seq (sub (codeOf Tryz.f21) [true,true,false,true,false,false,true,true,false,false,false]) (.seq (sub (codeOf Tryz.f21) [true,true,false,true,false,false,true,true,false,false,true,false]) (.cond (.tmp 26) (sub (codeOf Tryz.f21) [true,true,false,true,false,false,true,true,false,false,true,true,false]) .skip)) := rfl
      have gb : ∃ e3, go Tryz.prog X 81 (sub (codeOf Tryz.f21) [true,true,false,true,false,false,true,true,false,false,true,false]) e2 G2 = some (.normal, e3, G2) ∧ e3.get 26 = some (.bool (decide (rs[k].1 ≠ 4))) ∧ ∀ t, t < 22 → e3.get t = e2.get t := by
        have hd : decide ((rs[k].1 : Int) ≠ 4) = decide (rs[k].1 ≠ 4) := by
          by_cases h : rs[k].1 = 4
          · simp [h]
          · have : ¬ ((rs[k].1 : Nat) : Int) = 4 := by omega
            simp [h, this]
        simp only [codeOf, Tryz.f21, sub, go_seq, go_region, opsSeq_step, opsSeq_guard, guardStep_true, guardStep_false, guardVal, opsSeq_nil, afterStep_some, afterStep_none, stepC, kindOf, quietC, evC, Nat.reduceLT, Tr.get_set, if_true, if_false, Nat.reduceEqDiff, Option.map_some, Option.bind_some, List.getElem?_toArray, List.getElem?_cons_zero, List.getElem?_cons_succ, ofVal, decide_true, decide_false, BEq.rfl, andThen_normal, andThen_exit, andThen_ret, inBlock_normal, inBlock_ret, go_skip, go_exit, go_ret, loudStep, isCall, loudC, targetC, evs, evParts, mapO, List.nil_append, List.append_nil, List.cons_append, loadC, Heap.skip_get, Heap.get_put, Heap.skip_next, Heap.put_next, p6, fa42_0, g3, p1, bin_neq, hd]
        refine ⟨_, rfl, by simp only [Tr.get_set, if_true], fun t ht => ?_⟩
        simp only [Tr.get_set, show t ≠ 24 by omega, show t ≠ 25 by omega, show t ≠ 26 by omega, if_false]
      obtain ⟨e3, gb, b19, bq⟩ := gb
      have hq3 : ∀ t, t < 22 → t ≠ 7 → e3.get t = e.get t := fun t ht h5 => (bq t ht).trans (p7 t ht h5)
      by_cases h4 : rs[k].1 = 4
      · refine ⟨.normal, e3, G2, ?_, .inl rfl, ⟨(hq3 18 (by omega) (by omega)).trans q10, (hq3 5 (by omega) (by omega)).trans q3, ⟨(hq3 0 (by omega) (by omega)).trans q0, (hq3 1 (by omega) (by omega)).trans q1⟩, es, fs, ?_⟩, (hq3 20 (by omega) (by omega)).trans h1, (hq3 19 (by omega) (by omega)).trans h2⟩
        · rw [hcode, go_seq, g1, andThen_normal, go_seq, gb, andThen_normal, go_cond _ _ _ (v := false) (by simp only [evC, b19]; simp [h4]), if_neg (by simp), go_skip]
        · have : (fun z => (lows (rs.take (k + 1)) z).map nm) = (fun z => (lows (rs.take k) z).map nm) := by
            funext z; rw [htk, lows_snoc, if_neg (by simp [h4])]
          rw [this]; exact hO2
      · obtain ⟨e4, G4, es', fs', gc, hO4, cq⟩ := dst_r6 (X := X) hO2 (lo := rs[k].2.2) (u := rs[k].2.1) (k := rs[k].1) (c := G.next) (env := e3) (by have := hrk.2.2.1; omega) (by rw [List.length_map]; have := lows_length (rs.take k) rs[k].2.1; rw [List.length_take] at this; omega) p1 (by omega) ((bq 5 (by omega)).trans ((p7 5 (by omega) (by omega)).trans q3)) ((bq 7 (by omega)).trans p6)
        have hq4 : ∀ t, t < 22 → t ≠ 7 → e4.get t = e.get t := fun t ht h5 => (cq t ht).trans (hq3 t ht h5)
        refine ⟨.normal, e4, G4, ?_, .inl rfl, ⟨(hq4 18 (by omega) (by omega)).trans q10, (hq4 5 (by omega) (by omega)).trans q3, ⟨(hq4 0 (by omega) (by omega)).trans q0, (hq4 1 (by omega) (by omega)).trans q1⟩, es', fs', ?_⟩, (hq4 20 (by omega) (by omega)).trans h1, (hq4 19 (by omega) (by omega)).trans h2⟩
        · rw [hcode, go_seq, g1, andThen_normal, go_seq, gb, andThen_normal, go_cond _ _ _ (v := true) (by simp only [evC, b19]; simp [h4]), if_pos rfl, gc]
        · have : (fun z => (lows (rs.take (k + 1)) z).map nm) = (fun z => if z = rs[k].2.1 then (lows (rs.take k) z).map nm ++ [nm rs[k].2.2] else (lows (rs.take k) z).map nm) := by
            funext z
            rw [htk, lows_snoc]
            by_cases e : z = rs[k].2.1
            · rw [if_pos e, if_pos ⟨h4, e.symm⟩]; simp
            · rw [if_neg e, if_neg (fun h => e h.2.symm)]
          rw [this]; exact hO4)
  rcases hL rs.length 0 env H (by omega) ⟨h18, h5, ⟨rfl, rfl⟩, [], _, hm⟩ h20 h19 with ⟨e2, H2, g, _, c3, ⟨c0, c1⟩, es, fs, hO⟩ | ⟨_, _, _, ff⟩
  · rw [List.take_length] at hO
    exact ⟨e2, H2, es, fs, g, hO, c0, c1, c3⟩
  · exact ff.elim
end Go.Y
