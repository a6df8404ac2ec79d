/- Knots: its range over a map, and the sorting behind it. Knots as a hook: ahead of the range, the sorted names, and behind it. The plain law: older units, knots and relations on a way around. -/
import Derived.Test.YtmnhkbhdfkebmaaGreatY10
import Derived.Test.YtmnhkbhdfkebmaaGreatK13

set_option linter.unusedSimpArgs false
set_option linter.unusedVariables false

namespace Go.Y
open Go.K Go.Proofs Go
set_option linter.unusedSimpArgs false
set_option linter.unusedVariables false
set_option maxRecDepth 10000

variable {X : CallFn}

/-- The name of an entry. -/
def key (al : AL) (j : Nat) : Nat := match al[j]? with
  | some p => p.1
  | none => 0
theorem key_zero (a : Nat × CV) (t : AL) : key (a :: t) 0 = a.1 := rfl
theorem key_succ (a : Nat × CV) (t : AL) (j : Nat) : key (a :: t) (j + 1) = key t j := by simp [key]
theorem keysOf_range (al : AL) : keysOf al = (List.range al.length).map (key al) := by
  apply List.ext_getElem?
  intro i
  by_cases h : i < al.length
  · simp [keysOf, key, h]
  · simp [keysOf, h]
theorem key_mem {al : AL} {j : Nat} (h : j < al.length) : key al j ∈ keysOf al := by
  rw [keysOf_range]; exact List.mem_map.2 ⟨j, List.mem_range.2 h, rfl⟩
theorem mem_left {s : List Nat} : ∀ {al : AL} {j : Nat} {k v : CV} {b : Nat}, (k, v, b) ∈ leftC s (ents j al) → b ∉ s ∧ j ≤ b ∧ b < j + al.length ∧ k = nm (key al (b - j))
  | [], j, k, v, b, h => by simp [ents, leftC] at h
  | (x, u) :: t, j, k, v, b, h => by
    simp only [ents, leftC] at h
    have tail : (k, v, b) ∈ leftC s (ents (j + 1) t) → b ∉ s ∧ j ≤ b ∧ b < j + ((x, u) :: t).length ∧ k = nm (key ((x, u) :: t) (b - j)) := fun hm => by
      obtain ⟨h1, h2, h3, h4⟩ := mem_left hm
      refine ⟨h1, by omega, by simp only [List.length_cons]; omega, ?_⟩
      rw [h4, show b - j = (b - (j + 1)) + 1 by omega, key_succ]
    split at h
    · exact tail h
    · rename_i hc
      rcases List.mem_cons.1 h with e | h
      · injection e with e1 e2
        injection e2 with e2 e3
        subst e1; subst e2; subst e3
        refine ⟨by simpa using hc, by omega, by simp, ?_⟩
        rw [Nat.sub_self, key_zero]
      · exact tail h
theorem left_nil {s : List Nat} : ∀ {al : AL} {j : Nat}, leftC s (ents j al) = [] → ∀ i, i < al.length → j + i ∈ s
  | [], _, _, i, hi => by simp at hi
  | (x, u) :: t, j, h, i, hi => by
    simp only [ents, leftC] at h
    split at h
    · rename_i hc
      cases i with
      | zero => simpa using hc
      | succ i =>
        have := left_nil h i (by simpa using hi)
        rwa [show j + (i + 1) = j + 1 + i by omega]
    · cases h
theorem find_ents : ∀ {al : AL} {j b : Nat}, j ≤ b → b < j + al.length → ∃ v, findBorn b (ents j al) = some (nm (key al (b - j)), v)
  | [], j, b, h1, h2 => by simp at h2; omega
  | (x, u) :: t, j, b, h1, h2 => by
    simp only [ents, findBorn]
    by_cases e : j = b
    · subst e
      rw [beq_t rfl]
      exact ⟨u, by rw [Nat.sub_self, key_zero]⟩
    · rw [beq_f e]
      obtain ⟨v, hv⟩ := find_ents (al := t) (j := j + 1) (b := b) (by omega) (by simp only [List.length_cons] at h2; omega)
      exact ⟨v, by rw [hv, show b - j = (b - (j + 1)) + 1 by omega, key_succ]⟩
theorem ents_born : ∀ {al : AL} {j : Nat} {e : CV × CV × Nat}, e ∈ ents j al → e.2.2 < j + al.length
  | [], j, e, h => by simp [ents] at h
  | (x, u) :: t, j, e, h => by
    rcases List.mem_cons.1 h with rfl | h
    · simp
    · have := ents_born h
      simp only [List.length_cons]; omega

/-- Where the range stands. -/
structure Rg (HA H : Heap) (bm r : Nat) (al : AL) (s : List Nat) (v : CV) (f : Nat) : Prop where
  it : H.get r = some (.mapIter (some bm) al.length s al.length)
  m : MapIs H bm al
  lr : r < H.next
  lm : bm < H.next
  rm : r ≠ bm
  nr : HA.next ≤ r
  o : Own H f 1 9 v ((s.map (key al)).map nm)
  nf : v ≠ .nilSlice → HA.next ≤ f
  ok : HOk H
  ext : Ext HA.next HA H
  nd : s.Nodup
  lt : ∀ j ∈ s, j < al.length

noncomputable abbrev kBody : Code := sub (codeOf Tryz.f9) [true,true,true,true,true,true,false,true,false,false]

theorem knt_round {HA H : Heap} {bm r j : Nat} {al : AL} {s : List Nat} {v : CV} {f : Nat} {env : Env} (h : Rg HA H bm r al s v f) (hj : j < al.length) (hjs : j ∉ s) (hal : al.length < 1000)
    (h47 : env.get 47 = some (.ptr r 0)) (h49 : env.get 49 = some (.bool true)) (h9 : env.get 9 = some v) :
    ∃ env' H' v' f', go Tryz.prog X 120 (.seq (.cond (.tmp 49) .skip (.exit 2)) (sub (codeOf Tryz.f9) [true,true,true,true,true,true,false,true,false,false,true,true])) env (H.put r (.mapIter (some bm) al.length (s ++ [j]) al.length)) = some (.normal, env', H') ∧ Rg HA H' bm r al (s ++ [j]) v' f' ∧ env'.get 9 = some v' ∧ env'.get 47 = some (.ptr r 0) ∧ env'.get 5 = env.get 5 := by
  generalize hH1 : H.put r (.mapIter (some bm) al.length (s ++ [j]) al.length) = H1
  have hget : ∀ b, b ≠ r → H1.get b = H.get b := fun b hb => by rw [← hH1, Heap.get_put, if_neg hb]
  have hnx : H1.next = H.next := by rw [← hH1]; rfl
  have hr1 : H1.get r = some (.mapIter (some bm) al.length (s ++ [j]) al.length) := by rw [← hH1, Heap.get_put, if_pos rfl]
  have hm1 : MapIs H1 bm al := ⟨by rw [hget bm h.rm.symm]; exact h.m.get, h.m.lt⟩
  have hx1 : ∀ n, n ≤ r → Ext n H H1 := fun n hn => ⟨Nat.le_of_eq hnx.symm, fun b o hb ho => by rw [hget b (by omega)]; exact ho⟩
  have ho1 : Own H1 f 1 9 v ((s.map (key al)).map nm) := by
    refine ⟨h.o.1, ?_⟩
    rcases h.o.2 with e | ⟨b, p, e1, e2, e3, e4, e5⟩
    · exact .inl e
    · refine .inr ⟨b, p, e1, e2, by rw [hnx]; exact e3, e4, ?_⟩
      rw [hget b (by rintro rfl; rw [h.it] at e5; cases e5)]; exact e5
  have hk1 : HOk H1 := by rw [← hH1]; exact Hok.put rfl h.ok
  obtain ⟨u, hfind⟩ := find_ents (al := al) (j := 0) (b := j) (by omega) (by omega)
  rw [Nat.sub_zero] at hfind
  have hent : entryC H1 (.ptr r 0) = some (.tuple [nm (key al j), u]) := by
    simp only [entryC, hr1, List.getLast?_append, List.getLast?_singleton, Option.some_or, hm1.get, beq_t rfl, hfind, Option.map_some]
  generalize hH2 : (H1.skip 1).put H1.next (.cells [nm (key al j)] 9 none) = H2
  have x2 : Ext H1.next H1 H2 := by rw [← hH2]; exact Ext.skip.trans (Ext.put (Nat.le_refl _))
  have k2 : HOk H2 := by rw [← hH2]; exact Hok.put rfl (Hok.skip 1 hk1)
  have n2 : H2.next = H1.next + 1 := by rw [← hH2]; rfl
  have ho2 := ho1.ext x2 ho1.lt
  have hsl : s.length ≤ al.length := by
    have := h.nd.length_le_of_subset (l₂ := List.range al.length) (fun x hx => List.mem_range.2 (h.lt x hx))
    rwa [List.length_range] at this
  have lr1 : r < H1.next := by rw [hnx]; exact h.lr
  obtain ⟨it, i1, i2, i3⟩ := i9
  have hHA : HA.next ≤ H1.next := by rw [hnx]; exact h.ext.1
  obtain ⟨v', H3, f', hap, ho3, k3, n3, x3, hf3, _, _, keep⟩ := own_app (ts := 27) (c := H1.next) (y := nm (key al j)) (n := HA.next) ho2 k2 (by omega) h.nf u30 i1 i2 (by omega) z9 (by omega) (by rw [← hH2, Heap.get_put, if_pos rfl]) rfl rfl (by rw [List.length_map, List.length_map]; omega)
  have gb : ∃ e, go Tryz.prog X 120 (.seq (.cond (.tmp 49) .skip (.exit 2)) (sub (codeOf Tryz.f9) [true,true,true,true,true,true,false,true,false,false,true,true])) env H1 = some (.normal, e, H3) ∧ e.get 9 = some v' ∧ e.get 47 = some (.ptr r 0) ∧ e.get 5 = env.get 5 := by
    rw [go_seq, go_cond _ _ _ (v := true) (by simp only [evC, h49]), if_pos rfl, go_skip, andThen_normal]
    simp only [codeOf, Tryz.f9, sub, go_block, go_seq, go_region, opsSeq_step, opsSeq_guard, guardStep_true, guardStep_false, guardVal, opsSeq_nil, afterStep_some, afterStep_none, stepC, kindOf, quietC, evC, Nat.reduceLT, Tr.get_set, if_true, if_false, Nat.reduceEqDiff, Option.map_some, Option.bind_some, List.getElem?_toArray, List.getElem?_cons_zero, List.getElem?_cons_succ, ofVal, decide_true, decide_false, BEq.rfl, andThen_normal, andThen_exit, andThen_ret, inBlock_normal, inBlock_ret, go_skip, go_exit, go_ret, loudStep, isCall, loudC, targetC, evs, evParts, mapO, List.nil_append, List.append_nil, List.cons_append, loadC, Heap.skip_get, Heap.get_put, Heap.skip_next, Heap.put_next, h47, h9, hent, bs27, nm_cells, List.length_cons, List.length_nil, Nat.reduceAdd, hH2, hap]
    refine ⟨_, rfl, by simp only [Tr.get_set, if_true], by simp only [Tr.get_set, Nat.reduceEqDiff, if_false, h47], by simp only [Tr.get_set, Nat.reduceEqDiff, if_false]⟩
  obtain ⟨e, gb, b9, b47, b5⟩ := gb
  refine ⟨e, H3, v', f', gb, ⟨keep r _ (by omega) (x2.2 _ _ lr1 hr1) (fun _ g p e => by simp [CObj.fam] at e), ⟨keep bm _ (by have := h.lm; omega) (x2.2 _ _ (by have := h.lm; omega) hm1.get) (fun _ g p e => by simp [CObj.fam] at e), h.m.lt⟩, by omega, by have := h.lm; omega, h.rm, h.nr, ?_, fun _ => hf3, k3, ?_, ?_, ?_⟩, b9, b47, b5⟩
  · rw [List.map_append, List.map_append]; exact ho3
  · exact (h.ext.trans (hx1 _ h.nr)).trans ((x2.le hHA).trans x3)
  · exact List.nodup_append.2 ⟨h.nd, by simp, fun a ha b hb => by rw [List.mem_singleton.1 hb]; rintro rfl; exact hjs ha⟩
  · intro i hi
    rcases List.mem_append.1 hi with hi | hi
    · exact h.lt i hi
    · rw [List.mem_singleton.1 hi]; exact hj

/-- The loop in the model's world, whatever the order. -/
theorem knt_range (hX : CallOK Tryz.prog X) (hmx : Tryz.prog.follows .mixedOrders = true) {HA : Heap} {bm r : Nat} {al : AL} (hal : al.length < 1000) :
    ∀ (d : Nat) (s : List Nat) (env : Env) (H : Heap) (v : CV) (f : Nat), s.length + d = al.length → Rg HA H bm r al s v f → env.get 47 = some (.ptr r 0) → env.get 9 = some v →
      ∀ (η : Eta) (a : Act) (w : World), ARel η 120 env a → HRel η H w → ∀ Q : Exit → Act → World → Prop,
      (∀ (η' : Eta) (env' : Env) (H' : Heap) (v' : CV) (f' : Nat) (s' : List Nat) (a' : Act) (w' : World), ARel η' 120 env' a' → Moved η H w η' H' w' → env'.get 9 = some v' → env'.get 5 = env.get 5 → Rg HA H' bm r al s' v' f' → s'.Perm (List.range al.length) → Q (.exit 2) a' w') →
      LoopWp Tryz.prog kBody Q a w := by
  have hcode : kBody = .seq (sub (codeOf Tryz.f9) [true,true,true,true,true,true,false,true,false,false,false]) (.seq (.cond (.tmp 49) .skip (.exit 2)) (sub (codeOf Tryz.f9) [true,true,true,true,true,true,false,true,false,false,true,true])) := rfl
  intro d
  induction d using Nat.strongRecOn with
  | _ d ih =>
  intro s env H v f hsd h h47 h9 η a w ha hH Q hQ
  have hcall := calls_ok hX hmx
  refine loopWp_step ?_
  rw [hcode]
  refine wp_seq_k fun K hK => ?_
  -- the list of names that have come, when it is whole
  have hns : ∀ i ∈ s, i < al.length := h.lt
  have done : leftC s (ents 0 al) = [] → s.Perm (List.range al.length) := fun hl => by
    refine (List.perm_ext_iff_of_nodup h.nd List.nodup_range).2 fun x => ⟨fun hx => List.mem_range.2 (h.lt x hx), fun hx => ?_⟩
    have := left_nil hl x (List.mem_range.1 hx)
    rwa [Nat.zero_add] at this
  simp only [codeOf, Tryz.f9, sub]
  refine wp_region_list ?_
  unfold wpList
  rw [if_pos (wantedC_sound (b := true) ha rfl)]
  refine .inl (next_op ha hH (x := .tmp 47) (by simp only [evC, h47]) h.it h.m.get (fun e he => by have := ents_born he; omega) (Nat.le_refl _) rfl (fun hl => ?_) (fun k u b k' u' w' hb hk hu hrel hkp => ?_))
  · have ha1 := putC_sound (env' := env.set 48 (.tuple [.bool false])) (dst := some 48) (c := .tuple [.bool false]) ha (by simp [putC, blt_t (show 48 < 120 by omega)]) rfl
    refine seq_sound (env' := (env.set 48 (.tuple [.bool false])).set 49 (.bool false)) (H' := H) hcall ?_ ha1 hH ?_
    · simp only [go_seq, go_region, opsSeq_step, opsSeq_guard, guardStep_true, guardStep_false, guardVal, opsSeq_nil, afterStep_some, afterStep_none, stepC, kindOf, quietC, evC, Nat.reduceLT, Tr.get_set, if_true, if_false, Nat.reduceEqDiff, Option.map_some, Option.bind_some, List.getElem?_toArray, List.getElem?_cons_zero, List.getElem?_cons_succ, ofVal, decide_true, decide_false, BEq.rfl, andThen_normal, andThen_exit, andThen_ret, inBlock_normal, inBlock_ret, go_skip, go_exit, go_ret, loudStep, isCall, loudC, targetC, evs, evParts, mapO, List.nil_append, List.append_nil, List.cons_append, loadC, Heap.skip_get, Heap.get_put, Heap.skip_next, Heap.put_next]
    · intro η' a' w' ha' hm'
      refine hK a' w' (wp_seq (wp_cond_false (val_bool (evC_sound ha' (.tmp 49) (.bool false) (by simp only [evC, Tr.get_set, if_true]))) (wp_exit ?_)))
      exact hQ η' _ H v f s a' w' ha' hm' (by simp only [Tr.get_set, Nat.reduceEqDiff, if_false, h9]) (by simp only [Tr.get_set, Nat.reduceEqDiff, if_false]) h (done hl)
  · obtain ⟨hbs, _, hbl, _⟩ := mem_left hb
    rw [Nat.zero_add] at hbl
    have ha1 := putC_sound (env' := env.set 48 (.tuple [.bool true, k, u])) (dst := some 48) (c := .tuple [.bool true, k, u]) ha (by simp [putC, blt_t (show 48 < 120 by omega)]) (v := .tuple #[.bool true, k', u']) (by simp [CV.val, CV.vals, hk, hu])
    obtain ⟨e3, H3, v3, f3, g3', hR3, c9, c47, c5⟩ := knt_round (X := X) (env := (env.set 48 (.tuple [.bool true, k, u])).set 49 (.bool true)) h hbl hbs hal (by simp only [Tr.get_set, Nat.reduceEqDiff, if_false, h47]) (by simp only [Tr.get_set, if_true]) (by simp only [Tr.get_set, Nat.reduceEqDiff, if_false, h9])
    have hsl : (s ++ [b]).length ≤ al.length := by
      have := hR3.nd.length_le_of_subset (l₂ := List.range al.length) (fun x hx => List.mem_range.2 (hR3.lt x hx))
      rwa [List.length_range] at this
    rw [List.length_append, List.length_singleton] at hsl
    have hm0 : Moved η H w η (H.put r (.mapIter (some bm) al.length (s ++ [b]) al.length)) w' := ⟨hrel, hkp, Nat.le_refl _, fun b' o hb' => by
      rw [Heap.get_put] at hb'
      split at hb'
      · rename_i e; subst e; injection hb' with hb'; subst hb'; exact .inl ⟨_, h.it, rfl⟩
      · exact .inl ⟨o, hb', rfl⟩⟩
    refine seq_sound (env' := (env.set 48 (.tuple [.bool true, k, u])).set 49 (.bool true)) (H' := H.put r (.mapIter (some bm) al.length (s ++ [b]) al.length)) hcall ?_ ha1 hrel ?_
    · simp only [go_seq, go_region, opsSeq_step, opsSeq_guard, guardStep_true, guardStep_false, guardVal, opsSeq_nil, afterStep_some, afterStep_none, stepC, kindOf, quietC, evC, Nat.reduceLT, Tr.get_set, if_true, if_false, Nat.reduceEqDiff, Option.map_some, Option.bind_some, List.getElem?_toArray, List.getElem?_cons_zero, List.getElem?_cons_succ, ofVal, decide_true, decide_false, BEq.rfl, andThen_normal, andThen_exit, andThen_ret, inBlock_normal, inBlock_ret, go_skip, go_exit, go_ret, loudStep, isCall, loudC, targetC, evs, evParts, mapO, List.nil_append, List.append_nil, List.cons_append, loadC, Heap.skip_get, Heap.get_put, Heap.skip_next, Heap.put_next]
    · intro η' a' w'' ha' hm'
      have m1 := Moved.trans hH hm0 hm'
      refine hK a' w'' ((go_sound hX hmx _ _ _ _ _ _ _ g3').2 η' a' w'' ha' hm'.rel _ ?_)
      intro η2 a2 w2 ha2 m2
      have m3 := Moved.trans hH m1 m2
      refine ih (d - 1) (by omega) (s ++ [b]) e3 H3 v3 f3 (by rw [List.length_append, List.length_singleton]; omega) hR3 c47 c9 η2 a2 w2 ha2 m3.rel Q ?_
      intro η4 e4 H4 v4 f4 s4 a4 w4 ha4 m4 d9 d5 hR4 hp4
      exact hQ η4 e4 H4 v4 f4 s4 a4 w4 ha4 (Moved.trans hH m3 m4) d9 (d5.trans (c5.trans (by simp only [Tr.get_set, Nat.reduceEqDiff, if_false]))) hR4 hp4
end Go.Y

namespace Go.Y
open Go.K Go.Proofs Go
set_option linter.unusedSimpArgs false
set_option linter.unusedVariables false
set_option maxRecDepth 10000

variable {X : CallFn}

noncomputable def knotA : Code := .seq (sub (codeOf Tryz.f9) [false]) (.seq (sub (codeOf Tryz.f9) [true,false]) (.seq (sub (codeOf Tryz.f9) [true,true,false]) (.seq (sub (codeOf Tryz.f9) [true,true,true,false]) (.seq (sub (codeOf Tryz.f9) [true,true,true,true,false]) (sub (codeOf Tryz.f9) [true,true,true,true,true,false])))))
noncomputable def knotB : Code := .seq (sub (codeOf Tryz.f9) [true,true,true,true,true,true,false,false]) (.block 2 (.loop kBody))
noncomputable def knotS : Code := sub (codeOf Tryz.f9) [true,true,true,true,true,true,true,false]
noncomputable def knotC : Code := sub (codeOf Tryz.f9) [true,true,true,true,true,true,true,true]
theorem knot_code : codeOf Tryz.f9 = behind knotA (.seq knotB (.seq knotS knotC)) := rfl

def msOf (al : AL) : List Nat := (List.range 100).filter fun x => decide (x ∈ keysOf al)
def unName : CV → Nat
  | .str s => (s.data.toList.headD 0).toNat - 65
  | _ => 0
def alOf (es : List (CV × CV × Nat)) : AL := es.map fun e => (unName e.1, e.2.1)
theorem unName_nm {x : Nat} (h : x < 100) : unName (nm x) = x := by
  simp only [unName, nm, List.headD_cons, UInt8.toNat_ofNat']
  omega
theorem alOf_ents : ∀ {al : AL} {k : Nat}, (∀ y ∈ keysOf al, y < 100) → alOf (ents k al) = al
  | [], _, _ => rfl
  | (x, v) :: t, k, h => by
    have ih := alOf_ents (al := t) (k := k + 1) (fun y hy => h y (by simp only [keysOf, List.map_cons, List.mem_cons] at hy ⊢; exact .inr hy))
    have hx := unName_nm (h x (by simp [keysOf]))
    simp only [alOf] at ih ⊢
    simp only [ents, List.map_cons, ih, hx]

noncomputable def vStar (HA : Heap) (ms : List Nat) : CV := if ms = [] then .nilSlice else .slice HA.next 0 ms.length (.tail 1)
noncomputable def hStar (HA : Heap) (ms : List Nat) : Heap := if ms = [] then HA else HA.newF (.cells (ms.map nm) 9 (some (HA.next, 0)))
noncomputable def eStar (g v : CV) : Env := ((Tr.nil : Env).set 5 g).set 9 v

structure KOK (HA : Heap) (bm : Nat) (al : AL) : Prop where
  m : MapIs HA bm al
  nd : (keysOf al).Nodup
  ok : HOk HA
  len : al.length < 1000
  lm : bm < HA.next

/-- All entries of a tree. -/
def trAll {α : Type} : Tr α → (Nat → α → Bool) → Bool
  | .nil, _ => true
  | .node l v r, p => (match v with | none => true | some x => p 0 x) && trAll l (fun k => p (2 * k + 1)) && trAll r (fun k => p (2 * k + 2))
theorem trAll_iff {α : Type} : ∀ {t : Tr α} {p : Nat → α → Bool}, trAll t p = true ↔ ∀ n x, t.get n = some x → p n x = true
  | .nil, p => by simp [trAll, Tr.get_nil]
  | .node l v r, p => by
    have h1 := trAll_iff (t := l) (p := fun k => p (2 * k + 1))
    have h2 := trAll_iff (t := r) (p := fun k => p (2 * k + 2))
    simp only [trAll, Bool.and_eq_true, h1, h2]
    constructor
    · rintro ⟨⟨a, b⟩, c⟩ n x hn
      cases n with
      | zero =>
        simp only [Tr.get] at hn
        rw [hn] at a
        exact a
      | succ m =>
        simp only [Tr.get] at hn
        split at hn
        · rename_i hb
          have := Nat.eq_of_beq_eq_true hb
          have h := b _ _ hn
          rwa [show 2 * (m / 2) + 1 = m + 1 by omega] at h
        · rename_i hb
          have := Nat.ne_of_beq_eq_false hb
          have h := c _ _ hn
          rwa [show 2 * (m / 2) + 2 = m + 1 by omega] at h
    · intro h
      refine ⟨⟨?_, fun k x hk => ?_⟩, fun k x hk => ?_⟩
      · cases hv : v with
        | none => rfl
        | some x => exact h 0 x (by simp only [Tr.get, hv])
      · refine h (2 * k + 1) x ?_
        have e1 : Nat.beq (2 * k % 2) 0 = true := beq_t (by omega)
        have e2 : 2 * k / 2 = k := by omega
        simp only [Tr.get, e1, e2, hk]
      · refine h (2 * k + 2) x ?_
        have e1 : Nat.beq ((2 * k + 1) % 2) 0 = false := beq_f (by omega)
        have e2 : (2 * k + 1) / 2 = k := by omega
        simp only [Tr.get, e1, e2, hk]
def hokB (H : Heap) : Bool :=
  trAll H.fams (fun f l => l.all fun b => Nat.ble f b && Nat.blt b H.next) &&
  trAll H.objs (fun b o => match o.fam with
    | none => true
    | some (f, _) => Nat.ble f b && Nat.blt b H.next && trAll H.fams (fun g l => Nat.beq g f || l.all fun c => !Nat.beq c b))
theorem mem_fams {H : Heap} {f b : Nat} : b ∈ H.mem f ↔ ∃ l, H.fams.get f = some l ∧ b ∈ l := by
  unfold Heap.mem
  cases H.fams.get f <;> simp
theorem ble_iff {a b : Nat} : Nat.ble a b = true ↔ a ≤ b := by rw [Nat.ble_eq]
theorem blt_iff {a b : Nat} : Nat.blt a b = true ↔ a < b := by rw [Nat.blt_eq]
theorem beq_iff {a b : Nat} : Nat.beq a b = true ↔ a = b := by rw [Nat.beq_eq]
theorem hokB_iff {H : Heap} : hokB H = true ↔ HOk H := by
  unfold hokB
  simp only [Bool.and_eq_true, trAll_iff, List.all_eq_true, ble_iff, blt_iff]
  constructor
  · rintro ⟨a, b⟩
    refine ⟨fun f c hc => ?_, fun c o f p hc hf => ?_⟩
    · obtain ⟨l, h1, h2⟩ := mem_fams.1 hc
      exact a f l h1 c h2
    · have h := b c o hc
      rw [hf] at h
      simp only [Bool.and_eq_true, ble_iff, blt_iff, trAll_iff, Bool.or_eq_true, beq_iff, List.all_eq_true, Bool.not_eq_true'] at h
      refine ⟨h.1.1, h.1.2, fun g hg => ?_⟩
      obtain ⟨l, h1, h2⟩ := mem_fams.1 hg
      rcases h.2 g l h1 with e | e
      · exact e
      · have := e c h2
        rw [beq_t rfl] at this
        cases this
  · intro h
    refine ⟨fun f l hl c hc => h.mem f c (mem_fams.2 ⟨l, hl, hc⟩), fun c o hc => ?_⟩
    cases hf : o.fam with
    | none => rfl
    | some fp =>
      obtain ⟨f, p⟩ := fp
      obtain ⟨h1, h2, h3⟩ := h.fam c o f p hc hf
      simp only [Bool.and_eq_true, ble_iff, blt_iff, trAll_iff, Bool.or_eq_true, beq_iff, List.all_eq_true, Bool.not_eq_true']
      refine ⟨⟨h1, h2⟩, fun g l hl => ?_⟩
      by_cases e : g = f
      · exact .inl e
      · refine .inr fun b hb => beq_f fun e' => e (h3 g (mem_fams.2 ⟨l, hl, e' ▸ hb⟩))

/-- Names as keys. -/
def entsB : Nat → List (CV × CV × Nat) → Bool
  | _, [] => true
  | k, (.str s, _, b) :: t => (match s.data.toList with
    | [c] => Nat.ble 65 c.toNat && Nat.blt c.toNat 165
    | _ => false) && Nat.beq b k && entsB (k + 1) t
  | _, _ :: _ => false
theorem entsB_sound : ∀ {k : Nat} {es : List (CV × CV × Nat)}, entsB k es = true → es = ents k (alOf es) ∧ ∀ y ∈ keysOf (alOf es), y < 100
  | k, [], _ => ⟨rfl, fun y hy => by simp [alOf, keysOf] at hy⟩
  | k, (c, v, b) :: t, h => by
    cases c with
    | str s =>
      simp only [entsB, Bool.and_eq_true] at h
      obtain ⟨⟨h1, h2⟩, h3⟩ := h
      obtain ⟨ih1, ih2⟩ := entsB_sound h3
      split at h1
      · rename_i c hc
        simp only [Bool.and_eq_true, ble_iff, blt_iff] at h1
        have hb := Nat.eq_of_beq_eq_true h2
        subst hb
        have hun : unName (.str s) = c.toNat - 65 := by simp only [unName, hc, List.headD_cons]
        have hs : nm (c.toNat - 65) = .str s := by
          have e : UInt8.ofNat (65 + (c.toNat - 65)) = c := by
            rw [show 65 + (c.toNat - 65) = c.toNat by omega]; exact UInt8.ofNat_toNat
          have e2 : s.data = #[c] := by
            apply Array.ext'
            rw [hc]
          rw [nm, e, ← e2]
        refine ⟨?_, fun y hy => ?_⟩
        · show _ = ents b ((unName (.str s), v) :: alOf t)
          simp only [ents, hun, hs, ← ih1]
        · simp only [alOf, keysOf, List.map_cons, List.mem_cons] at hy ih2
          rcases hy with rfl | hy
          · rw [hun]; omega
          · exact ih2 y hy
      · cases h1
    | _ => simp [entsB] at h
theorem entsB_of : ∀ {k : Nat} {al : AL}, (∀ y ∈ keysOf al, y < 100) → entsB k (ents k al) = true
  | k, [], _ => rfl
  | k, (x, v) :: t, h => by
    have ih := entsB_of (k := k + 1) (al := t) (fun y hy => h y (by simp only [keysOf, List.map_cons, List.mem_cons] at hy ⊢; exact .inr hy))
    have hx := h x (by simp [keysOf])
    have e : (UInt8.ofNat (65 + x)).toNat = 65 + x := by rw [UInt8.toNat_ofNat']; omega
    simp only [ents, nm, entsB, e, ble_t (show 65 ≤ 65 + x by omega), blt_t (show 65 + x < 165 by omega), beq_t rfl, ih, Bool.and_self]

def nodupB : List Nat → Bool
  | [] => true
  | x :: t => (t.all fun y => !Nat.beq y x) && nodupB t
theorem nodupB_iff : ∀ {l : List Nat}, nodupB l = true ↔ l.Nodup
  | [] => by simp [nodupB]
  | x :: t => by
    simp only [nodupB, Bool.and_eq_true, List.all_eq_true, Bool.not_eq_true', nodupB_iff (l := t), List.nodup_cons]
    refine and_congr ⟨fun h hm => ?_, fun h y hy => beq_f fun e => h (e ▸ hy)⟩ Iff.rfl
    have := h x hm
    rw [beq_t rfl] at this
    cases this

def kokB (HA : Heap) (bm : Nat) (es : List (CV × CV × Nat)) (clock : Nat) : Bool :=
  entsB 0 es && Nat.beq clock es.length && nodupB (keysOf (alOf es)) && hokB HA && Nat.blt es.length 1000 && Nat.blt bm HA.next
theorem alOf_length (es : List (CV × CV × Nat)) : (alOf es).length = es.length := by simp [alOf]
theorem kokB_sound {HA : Heap} {bm clock : Nat} {es : List (CV × CV × Nat)} (hg : HA.get bm = some (.map es clock)) (h : kokB HA bm es clock = true) : KOK HA bm (alOf es) := by
  simp only [kokB, Bool.and_eq_true, nodupB_iff, hokB_iff, blt_iff, beq_iff] at h
  obtain ⟨⟨⟨⟨⟨h1, h2⟩, h3⟩, h4⟩, h5⟩, h6⟩ := h
  obtain ⟨e1, e2⟩ := entsB_sound h1
  refine ⟨⟨?_, e2⟩, h3, h4, by rw [alOf_length]; exact h5, h6⟩
  rw [hg, ← e1, h2, alOf_length]
theorem kokB_of {HA : Heap} {bm : Nat} {al : AL} (h : KOK HA bm al) : kokB HA bm (ents 0 al) al.length = true := by
  simp only [kokB, Bool.and_eq_true, nodupB_iff, hokB_iff, blt_iff, beq_iff]
  rw [alOf_ents h.m.lt, ents_length]
  exact ⟨⟨⟨⟨⟨entsB_of h.m.lt, rfl⟩, h.nd⟩, h.ok⟩, h.len⟩, h.lm⟩

noncomputable def knotR (rec : RunFn) (eA : Env) (HA : Heap) : Option (CV × Heap) :=
  match eA.get 6, eA.get 5, eA.get 9 with
  | some (.map bm), some g, some .nilSlice => match HA.get bm with
    | some (.map es clock) => match kokB HA bm es clock with
      | true => match rec 120 knotC (eStar g (vStar HA (msOf (alOf es)))) (hStar HA (msOf (alOf es))) with
        | some (.ret, e', H') => (resultsC Tryz.prog Tryz.f9.results.toList e' H').map fun v => (v, H')
        | _ => none
      | false => none
    | _ => none
  | _, _, _ => none
noncomputable def knotX (rec : RunFn) : CallFn := fun f args H => match Nat.beq f 9 && Nat.beq args.length 1 with
  | true => match rec 120 knotA (envOf args 0 .nil) H with
    | some (.normal, eA, HA) => knotR rec eA HA
    | _ => none
  | false => none

theorem mem_msOf {al : AL} (h : ∀ y ∈ keysOf al, y < 100) {x : Nat} : x ∈ msOf al ↔ x ∈ keysOf al := by
  simp only [msOf, List.mem_filter, List.mem_range, decide_eq_true_eq]
  exact ⟨fun h => h.2, fun hx => ⟨h x hx, hx⟩⟩
theorem msOf_sorted (al : AL) : (msOf al).Pairwise (· < ·) := List.Pairwise.filter _ List.pairwise_lt_range
theorem ms_unique {al : AL} {ms : List Nat} (h : ∀ y ∈ keysOf al, y < 100) (hn : (keysOf al).Nodup) (hp : ms.Perm (keysOf al)) (hs : ms.Pairwise (· ≤ ·)) : ms = msOf al := by
  refine sorted_unique ?_ (msOf_sorted al) fun x => by rw [mem_msOf h]; exact hp.mem_iff
  have hnd := hp.nodup_iff.2 hn
  exact (List.pairwise_and_iff.2 ⟨hs, hnd⟩).imp fun ⟨h1, h2⟩ => by omega

theorem hStar_grows (HA : Heap) (ms : List Nat) : Grows HA (hStar HA ms) := by
  unfold hStar
  split
  · exact Grows.refl _
  · refine ⟨Nat.le_succ _, fun b o hb => ?_⟩
    rw [Heap.newF_get] at hb
    split at hb
    · right; omega
    · exact .inl ⟨o, hb, rfl⟩

theorem knotX_ok (hX : CallOK Tryz.prog X) (hmx : Tryz.prog.follows .mixedOrders = true) (hS : SortOK X) {rec : RunFn} (hrec : RLe rec (go Tryz.prog X)) : CallOK Tryz.prog (knotX rec) := by
  intro f args H r H' h
  unfold knotX at h
  split at h
  rotate_left
  · cases h
  rename_i hf
  simp only [Bool.and_eq_true] at hf
  have hf9 : f = 9 := Nat.eq_of_beq_eq_true hf.1
  have hal1 : args.length = 1 := Nat.eq_of_beq_eq_true hf.2
  subst hf9
  split at h
  rotate_left
  · cases h
  rename_i eA HA hA
  unfold knotR at h
  split at h
  rotate_left
  · cases h
  rename_i bm g h6 h5 h9
  split at h
  rotate_left
  · cases h
  rename_i es clock hbm
  split at h
  rotate_left
  · cases h
  rename_i hKB
  have hK := kokB_sound hbm hKB
  split at h
  rotate_left
  · cases h
  rename_i e' H1 hC
  have hA := hrec _ _ _ _ _ hA
  have hC := hrec _ _ _ _ _ hC
  simp only [Option.map_eq_some_iff, Prod.mk.injEq] at h
  obtain ⟨v, hv, rfl, rfl⟩ := h
  generalize hal : alOf es = al at hK hC
  obtain ⟨gA, wA⟩ := go_sound hX hmx _ _ _ _ _ _ _ hA
  obtain ⟨gC, wC⟩ := go_sound hX hmx _ _ _ _ _ _ _ hC
  refine ⟨gA.trans ((hStar_grows _ _).trans gC), fun η w vs hH hvs => .inl ⟨?_, ?_⟩⟩
  · simp only [callFunc, Sem.run_bind, run_program, Result.andThen_ok, Tryz.func9, show (Tryz.f9.name == "runtime.NumGoroutine") = false by decide, Bool.false_eq_true, if_false, Sem.run_pure]
    rw [show Tryz.f9.body.isNone = false from rfl]
    simp only [Bool.false_eq_true, if_false, Sem.run_pure]
  · refine calls_of_wp Tryz.func9 (c := codeOf Tryz.f9) rfl ?_
    rw [knot_code]
    have hent : ARel η 120 (envOf args 0 .nil) { tmps := vs.toArray ++ Array.replicate (Tryz.f9.ntmps - vs.toArray.size) undef, defers := [] } := by
      have := enter_rel (ntmps := Tryz.f9.ntmps) hvs
      rw [hal1] at this
      exact this
    refine behind_wp hX hmx knotA hA hent hH ?_
    intro η1 a1 w1 ha1 m1
    have hes : es = ents 0 al ∧ clock = al.length := by
      have := hK.m.get
      rw [hbm] at this; injection this with this; injection this with h1 h2
      exact ⟨h1, h2⟩
    obtain ⟨rfl, rfl⟩ := hes
    have hcall := calls_ok hX hmx
    have hlt := hK.m.lt
    -- the range's beginning
    have g12 : go Tryz.prog X 120 (sub (codeOf Tryz.f9) [true,true,true,true,true,true,false,false]) eA HA = some (.normal, (eA.set 46 (.map bm)).set 47 (.ptr HA.next 0), HA.newF (.mapIter (some bm) al.length [] al.length)) := by
      simp only [codeOf, Tryz.f9, sub, go_seq, go_region, opsSeq_step, opsSeq_guard, guardStep_true, guardStep_false, guardVal, opsSeq_nil, afterStep_some, afterStep_none, stepC, kindOf, quietC, evC, Nat.reduceLT, Tr.get_set, if_true, if_false, Nat.reduceEqDiff, Option.map_some, Option.bind_some, List.getElem?_toArray, List.getElem?_cons_zero, List.getElem?_cons_succ, ofVal, decide_true, decide_false, BEq.rfl, andThen_normal, andThen_exit, andThen_ret, inBlock_normal, inBlock_ret, go_skip, go_exit, go_ret, loudStep, isCall, loudC, targetC, evs, evParts, mapO, List.nil_append, List.append_nil, List.cons_append, loadC, Heap.skip_get, Heap.get_put, Heap.skip_next, Heap.put_next, h6, rangeC, u49, hbm]
    have hRg : Rg HA (HA.newF (.mapIter (some bm) al.length [] al.length)) bm HA.next al [] .nilSlice 0 := by
      have hx : Ext HA.next HA (HA.newF (.mapIter (some bm) al.length [] al.length)) := Ext.newF (Nat.le_refl _)
      exact ⟨by rw [Heap.newF_get, if_pos rfl], hK.m.ext hx hK.lm, Nat.lt_succ_self _, Nat.lt_succ_of_lt hK.lm, by have := hK.lm; omega, Nat.le_refl _, ⟨by simp, .inl ⟨rfl, rfl⟩⟩, fun h => absurd rfl h, Hok.newF (fun _ _ e => by simp [CObj.fam] at e) hK.ok, hx, List.nodup_nil, fun _ h => by cases h⟩
    refine wp_seq (wp_seq ((go_sound hX hmx _ _ _ _ _ _ _ g12).2 η1 a1 w1 ha1 m1.rel _ ?_))
    intro η2 a2 w2 ha2 m2
    refine wp_block (loopWp_wp ?_)
    refine knt_range hX hmx hK.len al.length [] _ _ .nilSlice 0 (by simp) hRg (by simp only [Tr.get_set, if_true]) (by simp only [Tr.get_set, Nat.reduceEqDiff, if_false, h9]) η2 a2 w2 ha2 m2.rel _ ?_
    intro η3 e3 H3 v3 f3 s3 a3 w3 ha3 m3 d9 d5 hR3 hp3
    show Exit.inBlock 2 _ (.exit 2) a3 w3
    simp only [Exit.inBlock, if_true]
    -- the sorting
    have hnlt : ∀ x ∈ s3.map (key al), x < 100 := fun x hx => by
      obtain ⟨j, hj, rfl⟩ := List.mem_map.1 hx
      exact hlt _ (key_mem (hR3.lt j hj))
    have hperm : (s3.map (key al)).Perm (keysOf al) := by rw [keysOf_range]; exact hp3.map _
    have hlen3 : (s3.map (key al)).length = al.length := by rw [hperm.length_eq]; simp [keysOf]
    obtain ⟨H4, ms, c4, pm, sm, o4, k4, x4⟩ := hS _ _ _ _ hR3.o hnlt (by rw [hlen3]; have := hK.len; omega) hR3.ok
    have hms := ms_unique hlt hK.nd (pm.trans hperm) sm
    subst hms
    have gS : ∃ e4, go Tryz.prog X 120 knotS e3 H3 = some (.normal, e4, H4) ∧ e4.get 9 = some v3 ∧ e4.get 5 = e3.get 5 := by
      simp only [knotS, codeOf, Tryz.f9, sub, go_seq, go_region, opsSeq_step, opsSeq_guard, guardStep_true, guardStep_false, guardVal, opsSeq_nil, afterStep_some, afterStep_none, stepC, kindOf, quietC, evC, Nat.reduceLT, Tr.get_set, if_true, if_false, Nat.reduceEqDiff, Option.map_some, Option.bind_some, List.getElem?_toArray, List.getElem?_cons_zero, List.getElem?_cons_succ, ofVal, decide_true, decide_false, BEq.rfl, andThen_normal, andThen_exit, andThen_ret, inBlock_normal, inBlock_ret, go_skip, go_exit, go_ret, loudStep, isCall, loudC, targetC, evs, evParts, mapO, List.nil_append, List.append_nil, List.cons_append, loadC, Heap.skip_get, Heap.get_put, Heap.skip_next, Heap.put_next, d9, c4]
      exact ⟨_, rfl, by simp only [Tr.get_set, Nat.reduceEqDiff, if_false, d9], by simp only [Tr.get_set, Nat.reduceEqDiff, if_false]⟩
    obtain ⟨e4, gS, b9, b5⟩ := gS
    refine wp_seq ((go_sound hX hmx _ _ _ _ _ _ _ gS).2 η3 a3 w3 ha3 m3.rel _ ?_)
    intro η4 a4 w4 ha4 m4
    have mAll : Moved η1 HA w1 η4 H4 w4 := Moved.trans m1.rel m2 (Moved.trans m2.rel m3 m4)
    have xAll : Ext HA.next HA H4 := hR3.ext.trans (x4 HA.next hR3.nf)
    -- made anew
    have hcan : ∃ ηs, Moved η1 HA w1 ηs (hStar HA (msOf al)) w4 ∧ ARel ηs 120 (eStar g (vStar HA (msOf al))) a4 := by
      obtain ⟨u5, hu5, ht5⟩ := ha1.get 5 g h5
      obtain ⟨u5', hu5', ht5'⟩ := ha4.get 5 g (b5.trans (d5.trans (by simp only [Tr.get_set, Nat.reduceEqDiff, if_false, h5])))
      have := CV.val_mono mAll.keeps.le _ _ hu5
      rw [hu5'] at this; injection this with this; subst this
      obtain ⟨u9, hu9, ht9⟩ := ha4.get 9 v3 b9
      rcases o4.2 with ⟨e, e'⟩ | ⟨b1, p, e, hne, hb1, hfb, hg1⟩
      · have hnil : msOf al = [] := by simpa using e'
        refine ⟨η1, by rw [hStar, if_pos hnil]; exact canon0 m1.rel mAll xAll, ⟨ha4.defers, ha4.size, fun t c ht => ?_⟩⟩
        rw [vStar, if_pos hnil, eStar, Tr.get_set] at ht
        split at ht
        · rename_i e9; subst e9
          injection ht with ht; subst ht
          rw [e] at hu9
          exact ⟨_, hu9, ht9⟩
        · rw [Tr.get_set] at ht
          split at ht
          · rename_i e5; subst e5
            injection ht with ht; subst ht
            exact ⟨_, hu5, ht5'⟩
          · rw [Tr.get_nil] at ht; cases ht
      · have hnn : msOf al ≠ [] := by simpa using hne
        obtain ⟨x1, hx1, hor⟩ := m4.rel.obj b1 _ hg1
        have hcells : ((msOf al).map nm).flatMap CV.cells = (msOf al).map nm := by
          rw [List.flatMap_map]
          have : ∀ l : List Nat, (l.flatMap fun a => (nm a).cells) = l.map nm := fun l => by
            induction l with
            | nil => rfl
            | cons a t ih => rw [List.flatMap_cons, ih]; rfl
          exact this _
        rw [hcells] at hg1
        have hflat : CV.flats ((msOf al).map nm) = true := by
          have : ∀ l : List Nat, CV.flats (l.map nm) = true := fun l => by
            induction l with
            | nil => rfl
            | cons a t ih => simp only [List.map_cons, CV.flats, ih, nm, CV.flat, Bool.and_self]
          exact this _
        have hnf : HA.next ≤ f3 := hR3.nf (by rw [e]; intro hh; cases hh)
        refine ⟨η1.ins HA.next x1, by rw [hStar, if_neg hnn]; exact canon m1.rel mAll xAll hg1 hx1 hnf hfb hflat, ⟨ha4.defers, ha4.size, fun t c ht => ?_⟩⟩
        have hle : η1.le (η1.ins HA.next x1) := Eta.le_ins (by
          cases e : η1 HA.next with
          | none => rfl
          | some y => exact absurd (m1.rel.dom _ _ e) (Nat.lt_irrefl _))
        rw [vStar, if_neg hnn, eStar, Tr.get_set] at ht
        split at ht
        · rename_i e9; subst e9
          injection ht with ht; subst ht
          refine ⟨u9, ?_, ht9⟩
          rw [e] at hu9
          simp only [CV.val, hx1, Option.map_some, List.length_map] at hu9
          simp only [CV.val, Eta.ins_same, Option.map_some]
          exact hu9
        · rw [Tr.get_set] at ht
          split at ht
          · rename_i e5; subst e5
            injection ht with ht; subst ht
            exact ⟨_, CV.val_mono hle _ _ hu5, ht5'⟩
          · rw [Tr.get_nil] at ht; cases ht
    obtain ⟨ηs, mS, haS⟩ := hcan
    refine wC ηs a4 w4 haS mS.rel _ ?_
    intro η5 a5 w5 ha5 m5
    have mF : Moved η H w η5 H1 w5 := Moved.trans hH (Moved.trans hH m1 mS) m5
    obtain ⟨v', hv', hr⟩ := results_sound ha5 m5.rel hv
    exact ⟨ha5.defers, v', hr, η5, v', rfl, hv', m5.rel, mF.keeps⟩
end Go.Y

namespace Go.Y
open Go.K Go.Proofs
set_option linter.unusedSimpArgs false
set_option linter.unusedVariables false

theorem Leads.trans {rs : Rels} {u y t : Nat} (h : Leads rs u y) (k : Leads rs y t) : Leads rs u t := by
  induction h with
  | refl => exact k
  | cons hu _ ih => exact .cons hu (ih k)
theorem Leads.first {rs : Rels} {u t : Nat} (h : Leads rs u t) (hne : u ≠ t) : ∃ y, u ∈ lows rs y ∧ Leads rs y t := by
  cases h with
  | refl => exact absurd rfl hne
  | cons hu k => exact ⟨_, hu, k⟩

theorem idx_inj {us : List Nat} {a b : Nat} (ha : a ∈ us) (hb : b ∈ us) (h : us.idxOf a = us.idxOf b) : a = b := by
  have h1 := List.getElem_idxOf (List.idxOf_lt_length_of_mem ha)
  have h2 := List.getElem_idxOf (List.idxOf_lt_length_of_mem hb)
  rw [← h1, ← h2]
  simp only [h]

theorem way_leads {rs : Rels} (hR : ∀ r ∈ rs, Right r) {m x y : Nat} (w : Way (arcsFrom (unitsOf rs) 0 rs) m x y) : ∀ {a b : Nat}, a ∈ unitsOf rs → b ∈ unitsOf rs → (unitsOf rs).idxOf a = x → (unitsOf rs).idxOf b = y → Leads rs a b := by
  induction w with
  | nil x =>
    intro a b ha hb h1 h2
    rw [idx_inj ha hb (h1.trans h2.symm)]
    exact .refl b
  | cons hm w ih =>
    intro a b ha hb h1 h2
    obtain ⟨i, hi, h4, rfl⟩ := arcs_mem.1 hm
    have hmem := List.getElem_mem hi
    obtain ⟨hu, hl⟩ := rel_units hR hmem
    have e : a = rs[i].2.2 := idx_inj ha hl h1
    exact .cons (mem_lows.2 ⟨rs[i], hmem, h4, rfl, e.symm⟩) (ih hu hb rfl h2)
theorem leads_way {rs : Rels} {a b : Nat} (h : Leads rs a b) : ∃ m, Way (arcsFrom (unitsOf rs) 0 rs) m ((unitsOf rs).idxOf a) ((unitsOf rs).idxOf b) := by
  induction h with
  | refl x => exact ⟨0, .nil _⟩
  | cons hu _ ih =>
    obtain ⟨m, w⟩ := ih
    obtain ⟨r, hr, h4, h1, h2⟩ := mem_lows.1 hu
    obtain ⟨i, hi, rfl⟩ := List.mem_iff_getElem.1 hr
    refine ⟨m + 1, ?_⟩
    have := Way.cons (arcs := arcsFrom (unitsOf rs) 0 rs) (a := arcOf (unitsOf rs) (0 + i) rs[i]) (arcs_mem.2 ⟨i, hi, h4, rfl⟩) (n := m) (y := (unitsOf rs).idxOf _) (by rw [arcOf, h1]; exact w)
    rwa [arcOf, h2] at this
theorem older_leads {rs : Rels} (hR : ∀ r ∈ rs, Right r) {a b : Nat} (ha : a ∈ unitsOf rs) (hb : b ∈ unitsOf rs) (hne : a ≠ b) : OlderW rs a b ↔ Leads rs a b := by
  constructor
  · rintro ⟨m, w⟩
    exact way_leads hR w ha hb rfl rfl
  · intro h
    obtain ⟨m, w⟩ := leads_way h
    cases m with
    | zero => exact absurd (idx_inj ha hb w.zero) hne
    | succ m => exact ⟨m, w⟩
theorem tied_older {rs : Rels} (hR : ∀ r ∈ rs, Right r) {r : Nat × Nat × Nat} (h : r ∈ rs) : Tied rs r ↔ r.1 ≠ 4 ∧ OlderW rs r.2.1 r.2.2 := by
  obtain ⟨hu, hl⟩ := rel_units hR h
  rw [older_leads hR hu hl (hR r h).2.2.2.2]
  exact Iff.rfl

/-- Two units that lead to one another. -/
def Both (rs : Rels) (a b : Nat) : Prop := Leads rs a b ∧ Leads rs b a
open Classical in
noncomputable def both (rs : Rels) (a b : Nat) : Bool := decide (Both rs a b)
theorem both_iff {rs : Rels} {a b : Nat} : both rs a b = true ↔ Both rs a b := by simp [both]
noncomputable def knotsF (rs : Rels) : Nat → List Nat → List (List Nat)
  | 0, _ => []
  | _ + 1, [] => []
  | n + 1, u :: t => ((u :: t).filter fun x => both rs x u) :: knotsF rs n ((u :: t).filter fun x => !both rs x u)
theorem knotsF_mem {rs : Rels} : ∀ {n : Nat} {all : List Nat}, all.length ≤ n → ∀ a b, (∃ k ∈ knotsF rs n all, a ∈ k ∧ b ∈ k) ↔ a ∈ all ∧ b ∈ all ∧ Both rs a b
  | 0, all, h, a, b => by
    have : all = [] := List.length_eq_zero_iff.1 (by omega)
    subst this
    simp [knotsF]
  | n + 1, [], h, a, b => by simp [knotsF]
  | n + 1, u :: t, h, a, b => by
    have hself : both rs u u = true := both_iff.2 ⟨.refl u, .refl u⟩
    have hlen : ((u :: t).filter fun x => !both rs x u).length ≤ n := by
      rw [List.filter_cons, hself]
      simp only [Bool.not_true, Bool.false_eq_true, if_false]
      have := List.length_filter_le (fun x => !both rs x u) t
      simp only [List.length_cons] at h
      omega
    have ih := knotsF_mem (rs := rs) (n := n) hlen a b
    simp only [knotsF, List.mem_cons, exists_eq_or_imp]
    rw [ih]
    simp only [List.mem_filter, both_iff, Bool.not_eq_true', ← Bool.not_eq_true]
    constructor
    · rintro (⟨⟨h1, h2⟩, ⟨h3, h4⟩⟩ | ⟨⟨h1, h2⟩, ⟨h3, h4⟩, h5⟩)
      · exact ⟨List.mem_cons.1 h1, List.mem_cons.1 h3, h2.1.trans h4.2, h4.1.trans h2.2⟩
      · exact ⟨List.mem_cons.1 h1, List.mem_cons.1 h3, h5⟩
    · rintro ⟨h1, h3, h5⟩
      by_cases h2 : Both rs a u
      · exact .inl ⟨⟨List.mem_cons.2 h1, h2⟩, ⟨List.mem_cons.2 h3, h5.2.trans h2.1, h2.2.trans h5.1⟩⟩
      · have h4 : ¬ Both rs b u := fun h4 => h2 ⟨h5.1.trans h4.1, h4.2.trans h5.2⟩
        exact .inr ⟨⟨List.mem_cons.2 h1, h2⟩, ⟨List.mem_cons.2 h3, h4⟩, h5⟩

/-- The units that are the lower one of a relation on a way around. -/
def Low (rs : Rels) (a : Nat) : Prop := ∃ r ∈ rs, Tied rs r ∧ r.2.2 = a
theorem low_of {rs : Rels} {a b : Nat} (hne : a ≠ b) (h : Both rs a b) : Low rs a := by
  obtain ⟨y, hy, k⟩ := h.1.first hne
  obtain ⟨r, hr, h4, h1, h2⟩ := mem_lows.1 hy
  refine ⟨r, hr, ⟨h4, ?_⟩, h2⟩
  rw [h1, h2]
  exact k.trans h.2
/-- Two units are in the same knot exactly if each one is older than the other one. -/
theorem knots_ties {rs : Rels} (hR : ∀ r ∈ rs, Right r) {all : List Nat} (hall : ∀ a, a ∈ all ↔ Low rs a) {n : Nat} (hn : all.length ≤ n) {a b : Nat} (ha : a ∈ unitsOf rs) (hb : b ∈ unitsOf rs) (hne : a ≠ b) :
    (∃ k ∈ knotsF rs n all, a ∈ k ∧ b ∈ k) ↔ OlderW rs a b ∧ OlderW rs b a := by
  rw [knotsF_mem hn, older_leads hR ha hb hne, older_leads hR hb ha (Ne.symm hne)]
  constructor
  · exact fun h => h.2.2
  · exact fun h => ⟨(hall a).2 (low_of hne h), (hall b).2 (low_of (Ne.symm hne) ⟨h.2, h.1⟩), h⟩
end Go.Y
