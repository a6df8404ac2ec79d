/- The evaluator is sound in the rounds of a range over a function, too. Rounds of a range over a function: the record, one round, and what stays around it. The statement 'range over a function', and the loop of an iterator. -/
import Derived.Test.YtmnhkbhdfkebmaaGreatK13
import Derived.OrdersIn
import Derived.TacticsIn
import Derived.RangeFuncLeaves
import Derived.RangeFuncMany

set_option linter.unusedSimpArgs false
set_option linter.unusedVariables false

namespace Go.K
set_option linter.unusedSimpArgs false
set_option linter.unusedVariables false

/-- In a round, or not; else without a fence. -/
abbrev Fr (r : Option Nat) : Fence := { Fence.wide with round := r }
theorem calls_fr {l : Option Nat} {n : Nat} {P : Program} {f : FuncId} {args : Array Value} {w : World} {R : Ending → World → Prop} (h : Calls P f args w R) : CallsIn (Fr l) n P f args w R :=
  (callsIn_wide (n := n)).2 h
theorem wpIn_intro {l : Option Nat} {m : Nat} {P : Program} {o : Oper} {a : Act} {w : World} {K : Act → World → Prop} {Q : Exit → Act → World → Prop} (hd : ∀ c, o.op ≠ .defer c) (h : o.uponIn (Fr l) m P a K Q ((execOp a.eval o).run P w)) : o.wpIn (Fr l) m P a w K Q := by
  refine ⟨fun _ _ => trivial, ?_⟩
  rw [Oper.semAt_eq _ _ _ hd]; exact h
theorem quiet_nd {P : Program} {op : Op} {ρ : Operand → Option CV} {H : Heap} {v : CV} (h : quietC P op ρ H = some v) : ∀ c, op ≠ .defer c := by
  intro c e; subst e; simp [quietC] at h
theorem alloc_nd {P : Program} {op : Op} {ρ : Operand → Option CV} {v : CObj × (Nat → CV)} (h : allocC P op ρ = some v) : ∀ c, op ≠ .defer c := by
  intro c e; subst e; simp [allocC] at h
theorem loud_nd {P : Program} {op : Op} {ρ : Operand → Option CV} {H : Heap} {v : CV × Heap} (h : loudC P op ρ H = some v) : ∀ c, op ≠ .defer c := by
  intro c e; subst e; simp [loudC] at h
section
variable {P : Program} {η : Eta} {H : Heap} {w : World} {l : Option Nat} {m : Nat}

theorem step_soundR {call : CallFn} (hcall : CallOK P call) {nt : Nat} {env : Env} {a : Act} {o : Oper} {c : CV} {H' : Heap} {K : Act → World → Prop} {Q : Exit → Act → World → Prop}
    (ha : ARel η nt env a) (hH : HRel η H w) (h : stepC call P o.op (evC env) H = some (c, H')) (hK : ∀ η' v w', c.val η' = some v → Moved η H w η' H' w' → K (a.put o.dst v) w') : o.wpIn (Fr l) m P a w K Q := by
  have hρ := fun x c e => evC_sound ha x c e
  unfold stepC at h
  split at h
  · simp only [Option.map_eq_some_iff, Prod.mk.injEq] at h
    obtain ⟨v, hv, rfl, rfl⟩ := h
    obtain ⟨v', hv', hr⟩ := quiet_sound hH hρ o hv
    refine wpIn_intro (quiet_nd hv) ?_
    rw [hr, Oper.uponIn_value]
    exact hK η v' w hv' (Moved.refl hH)
  · simp only [Option.map_eq_some_iff, Prod.mk.injEq] at h
    obtain ⟨⟨co, f⟩, hal, rfl, rfl⟩ := h
    have hn : η H.next = none := by
      cases e : η H.next with
      | none => rfl
      | some y => exact absurd (hH.dom _ _ e) (Nat.lt_irrefl _)
    obtain ⟨obj, v, x, hr, hv, hrel, hx⟩ := alloc_moved (hH.skip 1) hρ o (b := H.next) (Nat.lt_succ_self _) hn hal
    refine wpIn_intro (alloc_nd hal) ?_
    rw [hr, Oper.uponIn_value]
    refine hK (η.ins H.next x) v _ hv ⟨hrel, ⟨rfl, rfl, rfl, by simp [pushed], fun k hk _ => pushed_lt w _ hk, Eta.le_ins hn, fun b y h1 h2 => ?_⟩, Grows.fill⟩
    by_cases e : b = H.next
    · subst e
      rw [Eta.ins_same] at h2; injection h2 with h2; subst h2
      exact ⟨Nat.le_refl _, .inl (Nat.le_of_eq hx.symm)⟩
    · rw [Eta.ins_ne _ _ e, h1] at h2; cases h2
  · unfold loudStep at h
    split at h
    · rename_i cl hcl
      simp only [Option.bind_eq_some_iff] at h
      obtain ⟨⟨f, args⟩, ht, hc⟩ := h
      simp only at hc
      obtain ⟨dst, op, type, pos, after, guard⟩ := o
      have hop : op = .call cl := by
        simp only at hcl
        unfold isCall at hcl
        split at hcl
        · split at hcl
          · cases hcl
          · injection hcl with hcl; rw [hcl]
        · cases hcl
      subst hop
      obtain ⟨vs, hvs, hrun⟩ := targetC_sound hH hρ type ht
      obtain ⟨hg, hinv⟩ := hcall f args H c H' hc
      refine wpIn_intro (by intro c e; cases e) ?_
      simp only [execOp]
      rw [hrun]
      rcases hinv η w vs hH hvs with ⟨he, hcalls⟩ | ⟨v, w', hval, η', v', e, hv', hrel, hk⟩
      · rw [he, Oper.uponIn_enter]
        refine ⟨fun h => (by cases h), (calls_fr hcalls).mono ?_⟩
        rintro e w' ⟨η', v, rfl, hv, hrel, hk⟩
        exact hK η' v w' hv ⟨hrel, hk, hg⟩
      · rw [hval, Oper.uponIn_value]
        injection e with e; subst e
        exact hK η' v w' hv' ⟨hrel, hk, hg⟩
    · obtain ⟨η', v, w', hv, hr, hrel, hk⟩ := loud_sound hH hρ o h
      have hg := loudC_grows h
      refine wpIn_intro (loud_nd h) ?_
      rcases hr with hr | ⟨hr, rfl⟩
      · rw [hr, Oper.uponIn_value]; exact hK η' v w' hv ⟨hrel, hk, hg⟩
      · rw [hr, Oper.uponIn_skip]; exact hK η' undef w' hv ⟨hrel, hk, hg⟩

theorem seq_soundR {call : CallFn} (hcall : CallOK P call) {nt : Nat} {ops : Array Oper} {Q : Exit → Act → World → Prop} : ∀ {os : List Oper} {env env' : Env} {H H' : Heap} {η : Eta} {a : Act} {w : World},
    opsSeq call P nt ops os env H = some (env', H') → ARel η nt env a → HRel η H w →
    (∀ η' a' w', ARel η' nt env' a' → Moved η H w η' H' w' → Q .normal a' w') → wpListIn (Fr l) m P ops Q os a w
  | [], env, env', H, H', η, a, w, h, ha, hH, hQ => by
    simp only [opsSeq, Option.some.injEq, Prod.mk.injEq] at h
    obtain ⟨rfl, rfl⟩ := h
    exact hQ η a w ha (Moved.refl hH)
  | o :: os, env, env', H, H', η, a, w, h, ha, hH, hQ => by
    unfold opsSeq at h
    unfold wpListIn
    split at h
    · cases h
    · rename_i hw
      rw [if_neg (by rw [wantedC_sound ha hw]; simp)]
      refine ⟨fun _ _ => trivial, ?_⟩
      split at h
      · rename_i env1 hp
        exact seq_soundR hcall h (putC_sound ha hp rfl) hH hQ
      · cases h
    · rename_i hw
      rw [if_pos (wantedC_sound ha hw)]
      split at h
      · rename_i v H1 hst
        split at h
        · rename_i env1 hp
          refine step_soundR hcall ha hH hst ?_
          intro η' v' w' hv hm
          refine seq_soundR hcall h (putC_sound (ha.mono hm.keeps.le) hp hv) hm.rel ?_
          intro η2 a2 w2 ha2 hm2
          exact hQ η2 a2 w2 ha2 (Moved.trans hH hm hm2)
        · cases h
      · cases h
theorem loudStep_soundR {call : CallFn} (hcall : CallOK P call) {ρ : Operand → Option CV} {a : Act} {o : Oper} {c : CV} {H' : Heap} {K : Act → World → Prop} {Q : Exit → Act → World → Prop}
    (hρ : ∀ x c, ρ x = some c → c.val η = some (a.eval x)) (hH : HRel η H w) (h : loudStep call P o.op ρ H = some (c, H')) (hK : ∀ η' v w', c.val η' = some v → Moved η H w η' H' w' → K (a.put o.dst v) w') : o.wpIn (Fr l) m P a w K Q := by
  unfold loudStep at h
  split at h
  · rename_i cl hcl
    simp only [Option.bind_eq_some_iff] at h
    obtain ⟨⟨f, args⟩, ht, hc⟩ := h
    simp only at hc
    obtain ⟨dst, op, type, pos, after, guard⟩ := o
    have hop : op = .call cl := by
      simp only at hcl
      unfold isCall at hcl
      split at hcl
      · split at hcl
        · cases hcl
        · injection hcl with hcl; rw [hcl]
      · cases hcl
    subst hop
    obtain ⟨vs, hvs, hrun⟩ := targetC_sound hH hρ type ht
    obtain ⟨hg, hinv⟩ := hcall f args H c H' hc
    refine wpIn_intro (by intro c e; cases e) ?_
    simp only [execOp]
    rw [hrun]
    rcases hinv η w vs hH hvs with ⟨he, hcalls⟩ | ⟨v, w', hval, η', v', e, hv', hrel, hk⟩
    · rw [he, Oper.uponIn_enter]
      refine ⟨fun h => (by cases h), (calls_fr hcalls).mono ?_⟩
      rintro e w' ⟨η', v, rfl, hv, hrel, hk⟩
      exact hK η' v w' hv ⟨hrel, hk, hg⟩
    · rw [hval, Oper.uponIn_value]
      injection e with e; subst e
      exact hK η' v w' hv' ⟨hrel, hk, hg⟩
  · obtain ⟨η', v, w', hv, hr, hrel, hk⟩ := loud_sound hH hρ o h
    have hg := loudC_grows h
    refine wpIn_intro (loud_nd h) ?_
    rcases hr with hr | ⟨hr, rfl⟩
    · rw [hr, Oper.uponIn_value]; exact hK η' v w' hv ⟨hrel, hk, hg⟩
    · rw [hr, Oper.uponIn_skip]; exact hK η' undef w' hv ⟨hrel, hk, hg⟩

end

namespace Setting
variable {call : CallFn} {P : Program} {nt : Nat} {ops : Array Oper} {H0 : Heap} {env0 : Env} {steps : List PStep} {σ : Nat → DS}
variable {η0 : Eta} {w0 : World} {T : Nat → Prop} {c : Nat} {Hc : Heap} {η : Eta} {a : Act} {w : World} {lo : Option Nat} {mo : Nat}

theorem step_anyR (S : Setting call P nt ops H0 env0 steps σ) (hcall : CallOK P call) (hH0 : HRel η0 H0 w0) (I : Inv call P nt ops H0 env0 steps σ η0 w0 T c Hc η a w) {k : Nat} {x : PStep} (hx : steps[k]? = some x) (hno : ¬ T x.idx)
    (hr : ∀ e ∈ x.op.after.toList, Region.binds .any e = true → T e.on) {Q : Exit → Act → World → Prop} {K : Act → World → Prop}
    (hK : ∀ c' Hc' η' a' w', Inv call P nt ops H0 env0 steps σ η0 w0 (fun j => T j ∨ j = x.idx) c' Hc' η' a' w' → K a' w') : wpOpIn (Fr lo) mo P ops Q x.idx K a w := by
  have hlt := (List.getElem?_eq_some_iff.1 hx).1
  have hxo := (S.plan.mem k x hx).1
  have hop : ops[x.idx]? = some x.op := by rw [← Array.getElem?_toList]; exact hxo
  have hle := S.loud_eq hx
  obtain ⟨st1, st2⟩ := S.stand I hx hno hr
  have hρ := S.evR_sound I hx hno hr
  unfold wpOpIn
  rw [hop]
  simp only
  have notl : kindOf P x.op.op ≠ .loud → x.loud = false := by
    intro h
    cases hb : x.loud with
    | false => rfl
    | true => exact absurd (hle.1 hb) h
  cases S.step k x hx with
  | skip H hs eh wf p l =>
    rw [if_neg (by rw [S.wanted_sound I hx hno hr wf]; simp)]
    refine ⟨fun _ _ => trivial, ?_⟩
    rcases l with ⟨l1, l2, l3⟩ | ⟨l1, l2, l3⟩
    · have hc := st1 l1
      have hHc : Hc = H := by
        have := (S.at_head (Nat.le_of_lt hlt) eh).1
        rw [← hc, I.hc] at this; injection this
      subst hHc
      have hin := S.made_ahead I.closed hx l1 hr
      exact hK _ _ _ _ _ (S.inv_loud hcall I hx hH0 hr l1 hc hin (hle.1 l1) l2 p rfl (Moved.refl (S.inv_before I (Nat.le_of_lt hlt) hc hin)))
    · refine hK _ _ _ _ _ (S.inv_quiet I hx hr l1 ?_ p rfl)
      rintro co ⟨x2, f, g1, g2, g3, g4⟩
      rw [hx] at g1; injection g1 with g1; subst g1
      rw [wf] at g2; cases g2
  | quiet H hs v eh wt kd q same p e1 e2 =>
    rw [if_pos (S.wanted_sound I hx hno hr wt)]
    have hl := notl (by rw [kd]; simp)
    obtain ⟨s1, s2⟩ := st2 hl
    obtain ⟨a1, a2, a3⟩ := S.at_head (Nat.le_of_lt hlt) eh
    have hq : quietC P x.op.op (evR x.reads (σ k).env) Hc = some v := by
      by_cases e : c = cnt steps k
      · have : Hc = H := by rw [← e, I.hc] at a1; injection a1
        rw [this]; exact q
      · obtain ⟨G, g1, g2⟩ := sameAt_spec same (cnt steps k - 1 - c) (by omega)
        have := a3 c (by omega)
        rw [I.hc, g1] at this
        injection this with this
        rw [this]; exact g2
    obtain ⟨u, hu, hrun⟩ := quiet_sound I.rel hρ x.op hq
    refine wpIn_intro (quiet_nd hq) ?_
    rw [hrun, Oper.uponIn_value]
    refine hK _ _ _ _ _ (S.inv_quiet I hx hr hl ?_ p hu)
    rintro co ⟨x2, f, g1, g2, g3, g4⟩
    rw [hx] at g1; injection g1 with g1; subst g1
    rw [kd] at g3; cases g3
  | alloc H hs co f eh wt kd q p e1 e2 =>
    rw [if_pos (S.wanted_sound I hx hno hr wt)]
    have hl := notl (by rw [kd]; simp)
    have hidx : x.idx < ops.toList.length := (List.getElem?_eq_some_iff.1 hxo).1
    obtain ⟨obj, u, y, hrun, hy, hv, hor, _⟩ := alloc_sound I.rel hρ x.op (I.free x.idx hidx hno) q
    refine wpIn_intro (alloc_nd q) ?_
    rw [hrun, Oper.uponIn_value]
    exact hK _ _ _ _ _ (S.inv_alloc hcall I hx hno hr hl q p hy hv hor)
  | loud H hs v H' eh wt kd q p e1 e2 =>
    rw [if_pos (S.wanted_sound I hx hno hr wt)]
    have hl := hle.2 kd
    have hc := st1 hl
    have hHc : Hc = H := by
      have := (S.at_head (Nat.le_of_lt hlt) eh).1
      rw [← hc, I.hc] at this; injection this
    subst hHc
    have hin := S.made_ahead I.closed hx hl hr
    refine loudStep_soundR hcall hρ (S.inv_before I (Nat.le_of_lt hlt) hc hin) q ?_
    intro η' u w' hv hm
    exact hK _ _ _ _ _ (S.inv_loud hcall I hx hH0 hr hl hc hin kd e1 p hv hm)

end Setting

theorem any_soundR {lo : Option Nat} {mo : Nat} {call : CallFn} {P : Program} {nt : Nat} {ops : Array Oper} {H0 : Heap} {env0 : Env} {steps : List PStep} {σ : Nat → DS} (S : Setting call P nt ops H0 env0 steps σ) (hcall : CallOK P call)
    {η0 : Eta} {w0 : World} (hH0 : HRel η0 H0 w0) {HF : Heap} (hF : (σ steps.length).heap H0.next = some HF) {Q : Exit → Act → World → Prop}
    (hQ : ∀ η' a' w', ARel η' nt (σ steps.length).env a' → Moved η0 H0 w0 η' HF w' → Q .normal a' w') :
    ∀ (fuel : Nat) (listed : Array Bool) (c : Nat) (Hc : Heap) (η : Eta) (a : Act) (w : World), listed.size = ops.size → unl listed.toList = fuel →
      Setting.Inv call P nt ops H0 env0 steps σ η0 w0 (fun i => listed.getD i false = true) c Hc η a w → wpAnyIn (Fr lo) mo P .any ops Q fuel listed a w := by
  have lenEq : ops.toList.length = ops.size := Array.length_toList
  -- if none is ready, all are done
  have done : ∀ (listed : Array Bool), listed.size = ops.size → Region.ready .any ops listed = [] → ∀ i, i < ops.toList.length → listed.getD i false = true := by
    intro listed hsz hnil i
    induction i using Nat.strongRecOn with
    | _ i ih =>
      intro hi
      cases hv : listed.getD i false with
      | true => rfl
      | false =>
        exfalso
        have hi' : i < ops.size := by omega
        have hget : listed.getD i true = false := by
          have h1 : i < listed.size := by omega
          rw [Array.getD_eq_getD_getElem?, Array.getElem?_eq_getElem h1] at hv ⊢
          simpa using hv
        have ho : ops.toList[i]? = some ops.toList[i] := List.getElem?_eq_getElem hi
        have : i ∈ Region.ready .any ops listed := mem_ready.2 ⟨hi', hget, _, by rw [← Array.getElem?_toList]; exact ho, fun e he hb => by
          have hlt := S.plan.edges i _ ho e he hb
          exact ih e.on hlt (by omega)⟩
        rw [hnil] at this
        cases this
  have fin : ∀ (listed : Array Bool) c Hc η a w, listed.size = ops.size → Setting.Inv call P nt ops H0 env0 steps σ η0 w0 (fun i => listed.getD i false = true) c Hc η a w → Region.ready .any ops listed = [] → Q .normal a w := by
    intro listed c Hc η a w hsz I hnil
    obtain ⟨h1, h2⟩ := S.inv_end hcall hH0 I (done listed hsz hnil) hF
    exact hQ η a w h1 h2
  intro fuel
  induction fuel with
  | zero =>
    intro listed c Hc η a w hsz hun I
    have hnil : Region.ready .any ops listed = [] := by
      apply List.eq_nil_iff_forall_not_mem.2
      intro i hi
      obtain ⟨h1, h2, _⟩ := mem_ready.1 hi
      have h3 : i < listed.size := by omega
      have := unl_zero hun i listed[i] (by rw [Array.getElem?_toList]; exact Array.getElem?_eq_getElem h3)
      rw [Array.getD_eq_getD_getElem?, Array.getElem?_eq_getElem h3] at h2
      simp [this] at h2
    exact ⟨hnil, fin listed c Hc η a w hsz I hnil⟩
  | succ fuel ih =>
    intro listed c Hc η a w hsz hun I
    refine ⟨fin listed c Hc η a w hsz I, fun i hi => ?_⟩
    obtain ⟨h1, h2, o, ho, hr⟩ := mem_ready.1 hi
    obtain ⟨k, x, hx, rfl⟩ := S.plan.all i (by omega)
    have hxo := (S.plan.mem k x hx).1
    rw [Array.getElem?_toList, ho] at hxo
    injection hxo with hxo; subst hxo
    have hlt : x.idx < listed.size := by omega
    have hfalse : listed[x.idx] = false := by
      rw [Array.getD_eq_getD_getElem?, Array.getElem?_eq_getElem hlt] at h2
      simpa using h2
    have hno : ¬ listed.getD x.idx false = true := by
      rw [Array.getD_eq_getD_getElem?, Array.getElem?_eq_getElem hlt]; simp [hfalse]
    refine S.step_anyR hcall hH0 I hx hno hr ?_
    intro c' Hc' η' a' w' I'
    refine ih (listed.setIfInBounds x.idx true) c' Hc' η' a' w' (by simp [hsz]) ?_ ?_
    · have := unl_set (l := listed.toList) (i := x.idx) (by rw [Array.getElem?_toList, Array.getElem?_eq_getElem hlt, hfalse])
      rw [Array.toList_setIfInBounds]; omega
    · have : (fun i => (listed.setIfInBounds x.idx true).getD i false = true) = (fun j => listed.getD j false = true ∨ j = x.idx) := by
        funext j
        apply propext
        simp only [Array.getD_eq_getD_getElem?, Array.getElem?_setIfInBounds]
        by_cases e : x.idx = j
        · subst e; simp [hlt]
        · have : ¬ j = x.idx := fun h => e h.symm
          simp [e, this]
      rw [this]; exact I'

theorem drawn_soundR {lo : Option Nat} {mo : Nat} {call : CallFn} {P : Program} {nt : Nat} {ops : Array Oper} {H H' : Heap} {env env' : Env} (hcall : CallOK P call) (hm : P.follows .mixedOrders = true) {η : Eta} {a : Act} {w : World} {id : Nat}
    (h : drawC call P nt ops env H = some (env', H')) (ha : ARel η nt env a) (hH : HRel η H w) {Q : Exit → Act → World → Prop} (hQ : ∀ η' a' w', ARel η' nt env' a' → Moved η H w η' H' w' → Q .normal a' w') :
    (Code.region id ops true).wpIn (Fr lo) mo P Q a w := by
  unfold drawC at h
  split at h
  · rename_i steps hplan
    split at h
    · rename_i s hrun
      split at h
      · rename_i HF hF
        simp only [Option.some.injEq, Prod.mk.injEq] at h
        obtain ⟨rfl, rfl⟩ := h
        obtain ⟨σ, e0, eF, hs⟩ := drawRun_trace hrun
        have S : Setting call P nt ops H env steps σ := ⟨planC_ok hplan, e0, fun k x hx => stepIs (hs k x hx)⟩
        refine wpIn_region_any hm ?_
        have hH' : HRel η H (drawn w) := rel_drawn hH
        rw [← eF] at hF hQ
        refine any_soundR S hcall hH' hF (fun η' a' w' h1 h2 => hQ η' a' w' h1 h2.drawn') ops.size (Array.replicate ops.size false) 0 (H.skip ops.toList.length) η a (drawn w) (by simp) (by simp [unl_replicate]) ?_
        have I := S.inv_start hH' ha
        have : (fun i => (Array.replicate ops.size false).getD i false = true) = (fun _ => False) := by
          funext i
          apply propext
          simp [Array.getD_eq_getD_getElem?, Array.getElem?_replicate]
          split <;> rfl
        rw [this]; exact I
      · cases h
    · cases h
  · cases h
section
variable {P : Program}

/-- A loop goes on as long as the evaluator does. -/
def LoopWpR (lo : Option Nat) (mo : Nat) (P : Program) (c : Code) (Q : Exit → Act → World → Prop) (a : Act) (w : World) : Prop :=
  ∀ (b : Frame) (k : List Item) (cs : List Frame), b.roundOf = (Fr lo).round → (Fr lo).fn b.fn → (Fr lo).room (cs.length + 1 + mo) → ∃ e a' w', Q e a' w' ∧ ArrivesIn (Machine.fenced P (Fr lo)) P (lone (b.atR a (.code c :: .inLoop c :: k)) cs w) b k cs e a' w'
theorem loopWpR_wp {lo : Option Nat} {mo : Nat} {c : Code} {Q : Exit → Act → World → Prop} {a : Act} {w : World} (h : LoopWpR lo mo P c Q a w) : (Code.loop c).wpIn (Fr lo) mo P Q a w := by
  intro b k cs hro hb hr
  obtain ⟨e, a', w', hq, harr⟩ := h b k cs hro hb hr
  exact ⟨e, a', w', hq, .of_steps (.one (fenced_calm hb hr rfl) stepR_loop) harr⟩
theorem loopWpR_step {lo : Option Nat} {mo : Nat} {c : Code} {Q : Exit → Act → World → Prop} {a : Act} {w : World} (h : c.wpIn (Fr lo) mo P (Exit.then (LoopWpR lo mo P c Q) Q) a w) : LoopWpR lo mo P c Q a w := by
  intro b k cs hro hb hr
  obtain ⟨e, a₁, w₁, hq, harr⟩ := h b (.inLoop c :: k) cs hro hb hr
  cases e with
  | normal =>
    obtain ⟨e₂, a₂, w₂, hq₂, harr₂⟩ := hq b k cs hro hb hr
    exact ⟨e₂, a₂, w₂, hq₂, .of_steps (StepsIn.trans harr (.one (fenced_calm (fr := b.atR a₁ (.inLoop c :: k)) hb hr rfl) stepR_inLoop)) harr₂⟩
  | exit id => exact ⟨_, a₁, w₁, hq, .pass (x := .inLoop c) rfl (fun _ _ => .inl (by simp)) harr⟩
  | goto l => exact ⟨_, a₁, w₁, hq, .pass (x := .inLoop c) rfl (fun _ _ => .inl (by simp)) harr⟩
  | ret => exact ⟨_, a₁, w₁, hq, .pass (x := .inLoop c) rfl (fun _ _ => .inl (by simp)) harr⟩
  | panic ch => exact ⟨_, a₁, w₁, hq, .pass (x := .inLoop c) rfl (fun _ _ => .inl (by simp)) harr⟩
  | outgrown => exact ⟨_, a₁, w₁, hq, .pass (x := .inLoop c) rfl (fun _ _ => .inl (by simp)) harr⟩

/-- The evaluator is sound in a round. -/
def RunOKR (lo : Option Nat) (mo : Nat) (P : Program) (rec : RunFn) : Prop :=
  ∀ nt c env H e env' H', rec nt c env H = some (e, env', H') → Grows H H' ∧ ∀ η a w, ARel η nt env a → HRel η H w → ∀ Q : Exit → Act → World → Prop,
    (∀ η' a' w', ARel η' nt env' a' → Moved η H w η' H' w' → Q e.exit' a' w') → c.wpIn (Fr lo) mo P Q a w

theorem run_soundR {lo : Option Nat} {mo : Nat} {X : CallFn} (hX : CallOK P X) (hm : P.follows .mixedOrders = true) : ∀ n, (RunOKR lo mo P (run P X n)) ∧ ∀ nt body env H e env' H', run P X n nt (.loop body) env H = some (e, env', H') → ∀ η a w, ARel η nt env a → HRel η H w →
    ∀ Q : Exit → Act → World → Prop, (∀ η' a' w', ARel η' nt env' a' → Moved η H w η' H' w' → Q e.exit' a' w') → LoopWpR lo mo P body Q a w := by
  intro n
  induction n with
  | zero => exact ⟨fun _ _ _ _ _ _ _ h => by simp [run] at h, fun _ _ _ _ _ _ _ h => by simp [run] at h⟩
  | succ n ih =>
    obtain ⟨ih1, ih2⟩ := ih
    have hcall := call_ok hX (run_sound hX hm n).1
    have loopCase : ∀ nt body env H e env' H', run P X (n + 1) nt (.loop body) env H = some (e, env', H') → Grows H H' ∧ ∀ η a w, ARel η nt env a → HRel η H w →
        ∀ Q : Exit → Act → World → Prop, (∀ η' a' w', ARel η' nt env' a' → Moved η H w η' H' w' → Q e.exit' a' w') → LoopWpR lo mo P body Q a w := by
      intro nt body env H e env' H' h
      simp only [run] at h
      split at h
      · rename_i env1 H1 h1
        obtain ⟨g1, w1⟩ := ih1 _ _ _ _ _ _ _ h1
        obtain ⟨g2, _⟩ := ih1 _ _ _ _ _ _ _ h
        refine ⟨g1.trans g2, fun η a w ha hH Q hQ => loopWpR_step (w1 η a w ha hH _ ?_)⟩
        intro η1 a1 w1' ha1 hm1
        exact ih2 _ _ _ _ _ _ _ h η1 a1 w1' ha1 hm1.rel Q (fun η2 a2 w2 ha2 hm2 => hQ η2 a2 w2 ha2 (Moved.trans hH hm1 hm2))
      · rename_i hne
        obtain ⟨g1, w1⟩ := ih1 _ _ _ _ _ _ _ h
        refine ⟨g1, fun η a w ha hH Q hQ => loopWpR_step (w1 η a w ha hH _ ?_)⟩
        intro η1 a1 w1' ha1 hm1
        have := hQ η1 a1 w1' ha1 hm1
        cases e with
        | normal => exact absurd h (hne env' H')
        | exit id => exact this
        | ret => exact this
    refine ⟨?_, fun nt body env H e env' H' h => (loopCase nt body env H e env' H' h).2⟩
    intro nt c env H e env' H' h
    cases c with
    | skip =>
      simp only [run, Option.some.injEq, Prod.mk.injEq] at h
      obtain ⟨rfl, rfl, rfl⟩ := h
      exact ⟨Grows.refl H, fun η a w ha hH Q hQ => wpIn_skip (hQ η a w ha (Moved.refl hH))⟩
    | label l =>
      simp only [run, Option.some.injEq, Prod.mk.injEq] at h
      obtain ⟨rfl, rfl, rfl⟩ := h
      exact ⟨Grows.refl H, fun η a w ha hH Q hQ => wpIn_label (hQ η a w ha (Moved.refl hH))⟩
    | exit id =>
      simp only [run, Option.some.injEq, Prod.mk.injEq] at h
      obtain ⟨rfl, rfl, rfl⟩ := h
      exact ⟨Grows.refl H, fun η a w ha hH Q hQ => wpIn_exit (hQ η a w ha (Moved.refl hH))⟩
    | ret =>
      simp only [run, Option.some.injEq, Prod.mk.injEq] at h
      obtain ⟨rfl, rfl, rfl⟩ := h
      exact ⟨Grows.refl H, fun η a w ha hH Q hQ => wpIn_ret (hQ η a w ha (Moved.refl hH))⟩
    | region id ops draw =>
      cases draw with
      | false =>
        simp only [run] at h
        split at h
        · rename_i env1 H1 hs
          simp only [Option.some.injEq, Prod.mk.injEq] at h
          obtain ⟨rfl, rfl, rfl⟩ := h
          exact ⟨opsSeq_grows hcall hs, fun η a w ha hH Q hQ => wpIn_region_list (seq_soundR hcall hs ha hH hQ)⟩
        · cases h
      | true =>
        simp only [run] at h
        split at h
        · rename_i env1 H1 hs
          simp only [Option.some.injEq, Prod.mk.injEq] at h
          obtain ⟨rfl, rfl, rfl⟩ := h
          exact ⟨drawC_grows hcall hs, fun η a w ha hH Q hQ => drawn_soundR hcall hm hs ha hH hQ⟩
        · cases h
    | seq x y =>
      simp only [run] at h
      split at h
      · rename_i env1 H1 h1
        obtain ⟨g1, w1⟩ := ih1 _ _ _ _ _ _ _ h1
        obtain ⟨g2, w2⟩ := ih1 _ _ _ _ _ _ _ h
        refine ⟨g1.trans g2, fun η a w ha hH Q hQ => wpIn_seq (w1 η a w ha hH _ ?_)⟩
        intro η1 a1 w1' ha1 hm1
        exact w2 η1 a1 w1' ha1 hm1.rel Q (fun η2 a2 w2 ha2 hm2 => hQ η2 a2 w2 ha2 (Moved.trans hH hm1 hm2))
      · rename_i hne
        obtain ⟨g1, w1⟩ := ih1 _ _ _ _ _ _ _ h
        refine ⟨g1, fun η a w ha hH Q hQ => wpIn_seq (w1 η a w ha hH _ ?_)⟩
        intro η1 a1 w1' ha1 hm1
        have := hQ η1 a1 w1' ha1 hm1
        cases e with
        | normal => exact absurd h (hne env' H')
        | exit id => exact this
        | ret => exact this
    | cond x t f =>
      simp only [run] at h
      split at h
      · rename_i hx
        obtain ⟨g1, w1⟩ := ih1 _ _ _ _ _ _ _ h
        exact ⟨g1, fun η a w ha hH Q hQ => wpIn_cond_true (val_bool (evC_sound ha x _ hx)) (w1 η a w ha hH Q hQ)⟩
      · rename_i hx
        obtain ⟨g1, w1⟩ := ih1 _ _ _ _ _ _ _ h
        exact ⟨g1, fun η a w ha hH Q hQ => wpIn_cond_false (val_bool (evC_sound ha x _ hx)) (w1 η a w ha hH Q hQ)⟩
      · cases h
    | block id body =>
      simp only [run] at h
      split at h
      · rename_i i env1 H1 h1
        obtain ⟨g1, w1⟩ := ih1 _ _ _ _ _ _ _ h1
        split at h
        · rename_i hi
          have := Nat.eq_of_beq_eq_true hi
          subst this
          simp only [Option.some.injEq, Prod.mk.injEq] at h
          obtain ⟨rfl, rfl, rfl⟩ := h
          refine ⟨g1, fun η a w ha hH Q hQ => wpIn_block (w1 η a w ha hH _ ?_)⟩
          intro η1 a1 w1' ha1 hm1
          have := hQ η1 a1 w1' ha1 hm1
          simp only [CE.exit', Exit.inBlock, if_true]
          exact this
        · rename_i hi
          have hne := Nat.ne_of_beq_eq_false hi
          simp only [Option.some.injEq, Prod.mk.injEq] at h
          obtain ⟨rfl, rfl, rfl⟩ := h
          refine ⟨g1, fun η a w ha hH Q hQ => wpIn_block (w1 η a w ha hH _ ?_)⟩
          intro η1 a1 w1' ha1 hm1
          have := hQ η1 a1 w1' ha1 hm1
          simp only [CE.exit', Exit.inBlock, hne, if_false]
          exact this
      · rename_i hne
        obtain ⟨g1, w1⟩ := ih1 _ _ _ _ _ _ _ h
        refine ⟨g1, fun η a w ha hH Q hQ => wpIn_block (w1 η a w ha hH _ ?_)⟩
        intro η1 a1 w1' ha1 hm1
        have := hQ η1 a1 w1' ha1 hm1
        cases e with
        | normal => exact this
        | exit i => exact absurd h (hne i env' H')
        | ret => exact this
    | loop body =>
      obtain ⟨g1, w1⟩ := loopCase nt body env H e env' H' h
      exact ⟨g1, fun η a w ha hH Q hQ => loopWpR_wp (w1 η a w ha hH Q hQ)⟩
    | rangeFunc f ps as b => simp [run] at h
    | scope b => simp [run] at h
    | goto l => simp [run] at h
    | refuse y => simp [run] at h


theorem go_soundR {lo : Option Nat} {mo : Nat} {X : CallFn} (hX : CallOK P X) (hm : P.follows .mixedOrders = true) : RunOKR lo mo P (go P X) := by
  intro nt c env H e env' H' h
  obtain ⟨n, hn⟩ := go_iff.1 h
  exact (run_soundR hX hm n).1 _ _ _ _ _ _ _ hn
end
end Go.K

namespace Go.K
set_option linter.unusedSimpArgs false
set_option linter.unusedVariables false

/-- What a range over a function keeps for itself. -/
def IsBook : Obj → Prop
  | .loop _ => True
  | .deferred _ => True
  | _ => False
section
variable {P : Program} {η η' η0 : Eta} {H H' H0 : Heap} {w w' w0 : World}

theorem HRel.ne_book (hH : HRel η H w) {k : Nat} {ob : Obj} (hk : w.heap[k]? = some ob) (hb : IsBook ob) {b : Nat} {o : CObj} {x : Loc} (ho : H.get b = some o) (hx : η b = some x) : x.blk ≠ k := by
  intro e
  obtain ⟨y, hy, r⟩ := hH.obj b o ho
  rw [hx] at hy; injection hy with hy; subst hy
  subst e
  cases o with
  | cells cs elem fam => obtain ⟨pre, l, rest, fr, h1, h2, _⟩ := r; rw [hk] at h2; injection h2 with h2; subst h2; exact hb
  | map es clock => obtain ⟨l, h1, h2⟩ := r; rw [hk] at h2; injection h2 with h2; subst h2; exact hb
  | mapIter m since seen stepped => obtain ⟨_, m', h1, h2⟩ := r; rw [hk] at h2; injection h2 with h2; subst h2; exact hb
  | strIter s pos => have h2 := r.2; rw [hk] at h2; injection h2 with h2; subst h2; exact hb
  | look cs => obtain ⟨pre, l, rest, elem, fr, h1, h2, _⟩ := r; rw [hk] at h2; injection h2 with h2; subst h2; exact hb
theorem Moved.book (hH : HRel η H w) (m : Moved η H w η' H' w') {k : Nat} {ob : Obj} (hk : w.heap[k]? = some ob) (hb : IsBook ob) : w'.heap[k]? = some ob :=
  (m.keeps.block k (Array.getElem?_eq_some_iff.1 hk).1 (fun b o x ho hx => hH.ne_book hk hb ho.1 hx)).trans hk
theorem HRel.putObj (hH : HRel η H w) {k : Nat} {ob : Obj} (hk : w.heap[k]? = some ob) (hb : IsBook ob) (ob' : Obj) : HRel η H (w.putObj k ob') := by
  refine ⟨fun b o ho => ?_, hH.dom, hH.inj, hH.fam, hH.famlt⟩
  obtain ⟨x, hx, r⟩ := hH.obj b o ho
  exact ⟨x, hx, r.mono η.le_refl (World.putObj_heap_other (hH.ne_book hk hb ho hx))⟩
theorem heap_alloc_lt (w : World) (ob : Obj) {k : Nat} (h : k < w.heap.size) : (w.alloc ob).heap[k]? = w.heap[k]? := by
  show (w.heap.push ob)[k]? = _
  rw [Array.getElem?_push_lt h, Array.getElem?_eq_getElem h]
theorem HRel.alloc (hH : HRel η H w) (ob : Obj) : HRel η H (w.alloc ob) := by
  refine ⟨fun b o ho => ?_, hH.dom, hH.inj, hH.fam, hH.famlt⟩
  obtain ⟨x, hx, r⟩ := hH.obj b o ho
  exact ⟨x, hx, r.mono η.le_refl (heap_alloc_lt _ _ r.lt)⟩
theorem Moved.putObj (m : Moved η0 H0 w0 η H w) {k : Nat} {ob : Obj} (hk : w.heap[k]? = some ob) (hb : IsBook ob) (hge : w0.heap.size ≤ k) (ob' : Obj) : Moved η0 H0 w0 η H (w.putObj k ob') := by
  refine ⟨m.rel.putObj hk hb ob', ⟨m.keeps.os, m.keeps.tape, m.keeps.output, ?_, fun j hj hne => ?_, m.keeps.le, fun b x h1 h2 => ?_⟩, m.grows⟩
  · have := m.keeps.size
    simpa using this
  · rw [World.putObj_heap_other (by omega)]
    exact m.keeps.block j hj hne
  · exact m.keeps.fresh b x h1 h2
theorem Moved.alloc (m : Moved η0 H0 w0 η H w) (ob : Obj) : Moved η0 H0 w0 η H (w.alloc ob) := by
  refine ⟨m.rel.alloc ob, ⟨m.keeps.os, m.keeps.tape, m.keeps.output, ?_, fun j hj hne => ?_, m.keeps.le, m.keeps.fresh⟩, m.grows⟩
  · have := m.keeps.size
    simp; omega
  · rw [heap_alloc_lt _ _ (Nat.lt_of_lt_of_le hj m.keeps.size)]
    exact m.keeps.block j hj hne

/-- Within a range over a function. -/
structure Rd (η0 : Eta) (H0 : Heap) (w0 : World) (l D : Nat) (r : Loop) (η : Eta) (H : Heap) (w : World) : Prop where
  m : Moved η0 H0 w0 η H w
  hl : w.heap[l]? = some (.loop r)
  hd : w.heap[D]? = some (.deferred (some []))
  ll : w0.heap.size ≤ l
  ld : w0.heap.size ≤ D
theorem Rd.ne {l D : Nat} {r : Loop} (h : Rd η0 H0 w0 l D r η H w) : D ≠ l := by
  intro e; subst e
  have := h.hl
  rw [h.hd] at this; cases this
theorem Rd.step {l D : Nat} {r : Loop} (h0 : HRel η0 H0 w0) (h : Rd η0 H0 w0 l D r η H w) (m : Moved η H w η' H' w') : Rd η0 H0 w0 l D r η' H' w' :=
  ⟨Moved.trans h0 h.m m, m.book h.m.rel h.hl trivial, m.book h.m.rel h.hd trivial, h.ll, h.ld⟩
theorem Rd.turn {l D : Nat} {r : Loop} (h : Rd η0 H0 w0 l D r η H w) (r' : Loop) : Rd η0 H0 w0 l D r' η H (w.putObj l (.loop r')) :=
  ⟨h.m.putObj h.hl trivial h.ll _, World.putObj_heap_same (Array.getElem?_eq_some_iff.1 h.hl).1, (World.putObj_heap_other h.ne).trans h.hd, h.ll, h.ld⟩

/-- The loop's variables. -/
def setL : Env → List Nat → List CV → Env
  | env, p :: ps, y :: ys => setL (env.set p y) ps ys
  | env, _, _ => env
theorem arel_sets {nt : Nat} : ∀ {ps : List Nat} {ys : List CV} {vs : List Value} {env : Env} {tmps : Array Value}, ARel η nt env ⟨tmps, []⟩ → CV.vals η ys = some vs → (∀ p ∈ ps, p < nt) →
    ARel η nt (setL env ps ys) ⟨(ps.zip vs).foldl (fun t (p, v) => t.setIfInBounds p v) tmps, []⟩
  | [], ys, vs, env, tmps, ha, hv, hp => by cases ys <;> exact ha
  | p :: ps, [], vs, env, tmps, ha, hv, hp => by
    simp [CV.vals] at hv; subst hv; exact ha
  | p :: ps, y :: ys, vs, env, tmps, ha, hv, hp => by
    simp only [CV.vals, Option.bind_eq_some_iff, Option.map_eq_some_iff] at hv
    obtain ⟨v, h1, vs', h2, rfl⟩ := hv
    simp only [setL, List.zip_cons_cons, List.foldl_cons]
    refine arel_sets ?_ h2 (fun q hq => hp q (List.mem_cons_of_mem _ hq))
    have hsz : tmps.size = nt := ha.size
    refine ⟨rfl, by simp [hsz], fun t c ht => ?_⟩
    rw [Tr.get_set] at ht
    have hpn := hp p (List.mem_cons_self ..)
    split at ht
    · rename_i e; subst e
      injection ht with ht; subst ht
      exact ⟨v, h1, by simp [Array.getElem?_setIfInBounds, hsz, hpn]⟩
    · rename_i e
      obtain ⟨u, hu, hut⟩ := ha.get t c ht
      exact ⟨u, hu, by rw [Array.getElem?_setIfInBounds, if_neg (fun e' => e e'.symm)]; exact hut⟩

/-- The record of a loop. -/
def recL (fn : FuncId) (tmps : Array Value) (ps : Array Tmp) (assign body : Code) (D : Nat) : Loop :=
  { state := .ready, pending := none, fn, tmps, params := ps, assign, body, defers := D }

/-- One round. -/
theorem round_ok {X : CallFn} (hX : CallOK P X) (hm : P.follows .mixedOrders = true) (h0 : HRel η0 H0 w0) {l D m nt : Nat} {fn : FuncId} {tmps : Array Value} {ps : Array Tmp} {assign body : Code} {env env1 env2 : Env} {H1 H2 : Heap} {ys : List CV} {vs : List Value}
    (h : Rd η0 H0 w0 l D (recL fn tmps ps assign body D) η H w) (ha : ARel η nt env ⟨tmps, []⟩) (hv : CV.vals η ys = some vs) (hlen : ys.length = ps.size) (hp : ∀ p ∈ ps.toList, p < nt)
    (g1 : go P X nt assign (setL env ps.toList ys) H = some (.normal, env1, H1)) (g2 : go P X nt body env1 H1 = some (.normal, env2, H2)) :
    YieldAt (Fr none) m P l vs.toArray w fun e w' => e = .returned (.bool true) ∧ ∃ η', Rd η0 H0 w0 l D (recL fn tmps ps assign body D) η' H2 w' ∧ η.le η' := by
  have hvl := CV.vals_length hv
  refine ⟨fn, _, assign, body, run_yield h.hl (by simp only [recL, List.size_toArray]; omega), roundIn_of_wpIn trivial ?_⟩
  have hzip : (ps.zip vs.toArray).foldl (fun t (p, v) => t.setIfInBounds p v) tmps = (ps.toList.zip vs).foldl (fun t (p, v) => t.setIfInBounds p v) tmps := by
    rw [← Array.foldl_toList, Array.toList_zip]
  have ha1 := arel_sets ha hv hp
  show assign.wpIn (Fr (some l)) m P _ { tmps := (ps.zip vs.toArray).foldl (fun t (p, v) => t.setIfInBounds p v) tmps, defers := [] } w
  rw [hzip]
  refine (go_soundR hX hm _ _ _ _ _ _ _ g1).2 η _ w ha1 h.m.rel _ ?_
  intro η1 a1 w1 ha1 m1
  have hR1 := h.step h0 m1
  refine ⟨_, run_beginRound hR1.hl rfl, ?_⟩
  have hR2 := hR1.turn { recL fn tmps ps assign body D with state := .busy }
  refine (go_soundR hX hm _ _ _ _ _ _ _ g2).2 η1 a1 _ ha1 hR2.m.rel _ ?_
  intro η2 a2 w2 ha2 m2
  have hR3 := hR2.step h0 m2
  have hend := run_endRound (P := P) none hR3.hl
  refine ⟨_, _, hend, rfl, η2, ?_, fun b x hb => m2.keeps.le _ _ (m1.keeps.le _ _ hb)⟩
  exact hR3.turn (recL fn tmps ps assign body D)

/-- A call of yield, as an operation. -/
theorem exec_yield {ρ : Operand → Value} {l : Nat} {c : Call} {f : Operand} {dst : Option Tmp} {type : TypeId} {pos : String} {af : Array Edge} {g : Option (Nat × Bool)} (hc : c.callee = .value f) (hf : ρ f = .func (.yield l) #[] #[]) :
    (execOp ρ ⟨dst, .call c, type, pos, af, g⟩).run P w = (Instr.yield l (c.args.map ρ)).run P w := by
  obtain ⟨callee, args, ats⟩ := c
  simp only at hc
  subst hc
  simp [execOp, resolve, hf, invoke, go_sem]
end
end Go.K

namespace Go.K
set_option linter.unusedSimpArgs false
set_option linter.unusedVariables false
section
variable {P : Program} {η η' η0 : Eta} {H H' H0 : Heap} {w w' w0 : World} {l : Option Nat} {m : Nat}

theorem seq_prefixR {call : CallFn} (hcall : CallOK P call) {nt : Nat} {ops : Array Oper} {rest : List Oper} {Q : Exit → Act → World → Prop} : ∀ {os : List Oper} {env env' : Env} {H H' : Heap} {η : Eta} {a : Act} {w : World},
    opsSeq call P nt ops os env H = some (env', H') → ARel η nt env a → HRel η H w →
    (∀ η' a' w', ARel η' nt env' a' → Moved η H w η' H' w' → wpListIn (Fr l) m P ops Q rest a' w') → wpListIn (Fr l) m P ops Q (os ++ rest) a w
  | [], env, env', H, H', η, a, w, h, ha, hH, hQ => by
    simp only [opsSeq, Option.some.injEq, Prod.mk.injEq] at h
    obtain ⟨rfl, rfl⟩ := h
    exact hQ η a w ha (Moved.refl hH)
  | o :: os, env, env', H, H', η, a, w, h, ha, hH, hQ => by
    unfold opsSeq at h
    rw [List.cons_append]
    unfold wpListIn
    split at h
    · cases h
    · rename_i hw
      rw [if_neg (by rw [wantedC_sound ha hw]; simp)]
      refine ⟨fun _ _ => trivial, ?_⟩
      split at h
      · rename_i env1 hp
        exact seq_prefixR hcall h (putC_sound ha hp rfl) hH hQ
      · cases h
    · rename_i hw
      rw [if_pos (wantedC_sound ha hw)]
      split at h
      · rename_i v H1 hst
        split at h
        · rename_i env1 hp
          refine step_soundR hcall ha hH hst ?_
          intro η' v' w' hv hm
          refine seq_prefixR hcall h (putC_sound (ha.mono hm.keeps.le) hp hv) hm.rel ?_
          intro η2 a2 w2 ha2 hm2
          exact hQ η2 a2 w2 ha2 (Moved.trans hH hm hm2)
        · cases h
      · cases h

/-- A call of yield whose round goes through. -/
theorem yield_in {ly : Nat} {c : Call} {f : Operand} {d : Tmp} {type : TypeId} {pos : String} {af : Array Edge} {a : Act} {K : Act → World → Prop} {Q : Exit → Act → World → Prop} {R : Ending → World → Prop} (hc : c.callee = .value f) (hf : a.eval f = .func (.yield ly) #[] #[])
    (hY : YieldAt (Fr none) (m - 1) P ly (c.args.map a.eval) w R) (hR : ∀ e w', R e w' → e = .returned (.bool true) ∧ K (a.put (some d) (.bool true)) w') :
    Oper.wpIn (Fr none) m P ⟨some d, .call c, type, pos, af, none⟩ a w K Q := by
  obtain ⟨fn, tmps, assign, body, hrun, hround⟩ := hY
  refine wpIn_intro (by intro c e; cases e) ?_
  rw [exec_yield hc hf, hrun, Oper.uponIn_round]
  refine ⟨fun h => (by cases h), hround.mono ?_⟩
  intro e w' he
  obtain ⟨rfl, hk⟩ := hR e w' he
  exact hk

/-- The loop of an iterator. -/
theorem iter_loop {X : CallFn} (hX : CallOK P X) (hm : P.follows .mixedOrders = true) (h0 : HRel η0 H0 w0) {nt e b tc N ly D : Nat} {r : Loop} {ch ci bodyB : Code} (Hs : Nat → Heap) (Inv Inv2 : Nat → Env → Prop)
    (hh : ∀ j env, Inv j env → j ≤ N → ∃ env', go P X nt ch env (Hs j) = some (.normal, env', Hs j) ∧ env'.get tc = some (.bool (decide (j < N))) ∧ Inv j env')
    (hB : ∀ j env η a w, j < N → Inv j env → ARel η nt env a → Rd η0 H0 w0 ly D r η (Hs j) w → bodyB.wpIn (Fr none) m P (fun ex a' w' => ex = .normal ∧ ∃ η' env', ARel η' nt env' a' ∧ Inv2 j env' ∧ Rd η0 H0 w0 ly D r η' (Hs (j + 1)) w') a w)
    (hi : ∀ j env, j < N → Inv2 j env → ∃ env', go P X nt ci env (Hs (j + 1)) = some (.normal, env', Hs (j + 1)) ∧ Inv (j + 1) env') :
    ∀ (k j : Nat) (env : Env) (η : Eta) (a : Act) (w : World), j + k = N → Inv j env → ARel η nt env a → Rd η0 H0 w0 ly D r η (Hs j) w →
      (Code.loop (.seq (.seq ch (.cond (.tmp tc) .skip (.exit e))) (.seq (.block b bodyB) ci))).wpIn (Fr none) m P (fun ex a' w' => ex = .exit e ∧ ∃ η' env', ARel η' nt env' a' ∧ Inv N env' ∧ Rd η0 H0 w0 ly D r η' (Hs N) w') a w := by
  have main : ∀ (k j : Nat) (env : Env) (η : Eta) (a : Act) (w : World), j + k = N → Inv j env → ARel η nt env a → Rd η0 H0 w0 ly D r η (Hs j) w →
      LoopWpR none m P (.seq (.seq ch (.cond (.tmp tc) .skip (.exit e))) (.seq (.block b bodyB) ci)) (fun ex a' w' => ex = .exit e ∧ ∃ η' env', ARel η' nt env' a' ∧ Inv N env' ∧ Rd η0 H0 w0 ly D r η' (Hs N) w') a w := by
    intro k
    induction k with
    | zero =>
      intro j env η a w hjk hI ha hR
      have : j = N := by omega
      subst this
      obtain ⟨env1, g1, g2, g3⟩ := hh j env hI (Nat.le_refl _)
      refine loopWpR_step (wpIn_seq (wpIn_seq ((go_soundR hX hm _ _ _ _ _ _ _ g1).2 η a w ha hR.m.rel _ ?_)))
      intro η1 a1 w1 ha1 m1
      refine wpIn_cond_false (val_bool (evC_sound ha1 (.tmp tc) (.bool false) (by simp only [evC]; rw [g2]; simp))) (wpIn_exit ?_)
      exact ⟨rfl, η1, env1, ha1, g3, hR.step h0 m1⟩
    | succ k ih =>
      intro j env η a w hjk hI ha hR
      have hj : j < N := by omega
      obtain ⟨env1, g1, g2, g3⟩ := hh j env hI (by omega)
      refine loopWpR_step (wpIn_seq (wpIn_seq ((go_soundR hX hm _ _ _ _ _ _ _ g1).2 η a w ha hR.m.rel _ ?_)))
      intro η1 a1 w1 ha1 m1
      refine wpIn_cond_true (val_bool (evC_sound ha1 (.tmp tc) (.bool true) (by simp only [evC]; rw [g2, decide_eq_true hj]))) (wpIn_skip ?_)
      refine wpIn_seq (wpIn_block (wpIn_mono (hB j env1 η1 a1 w1 hj g3 ha1 (hR.step h0 m1)) ?_))
      rintro ex a2 w2 ⟨rfl, η2, env2, ha2, hI2, hR2⟩
      obtain ⟨env3, g4, g5⟩ := hi j env2 hj hI2
      show ci.wpIn (Fr none) m P _ a2 w2
      refine (go_soundR hX hm _ _ _ _ _ _ _ g4).2 η2 a2 w2 ha2 hR2.m.rel _ ?_
      intro η3 a3 w3 ha3 m3
      exact ih (j + 1) env3 η3 a3 w3 (by omega) g5 ha3 (hR2.step h0 m3)
  intro k j env η a w hjk hI ha hR
  exact loopWpR_wp (main k j env η a w hjk hI ha hR)

/-- The loop of an iterator, put together in another way. -/
theorem iter_loop2 {X : CallFn} (hX : CallOK P X) (hm : P.follows .mixedOrders = true) (h0 : HRel η0 H0 w0) {nt e b tc N ly D : Nat} {r : Loop} {ch ci bodyB : Code} (Hs : Nat → Heap) (Inv Inv2 : Nat → Env → Prop)
    (hh : ∀ j env, Inv j env → j ≤ N → ∃ env', go P X nt ch env (Hs j) = some (.normal, env', Hs j) ∧ env'.get tc = some (.bool (decide (j < N))) ∧ Inv j env')
    (hB : ∀ j env η a w, j < N → Inv j env → ARel η nt env a → Rd η0 H0 w0 ly D r η (Hs j) w → bodyB.wpIn (Fr none) m P (fun ex a' w' => ex = .normal ∧ ∃ η' env', ARel η' nt env' a' ∧ Inv2 j env' ∧ Rd η0 H0 w0 ly D r η' (Hs (j + 1)) w') a w)
    (hi : ∀ j env, j < N → Inv2 j env → ∃ env', go P X nt ci env (Hs (j + 1)) = some (.normal, env', Hs (j + 1)) ∧ Inv (j + 1) env') :
    ∀ (k j : Nat) (env : Env) (η : Eta) (a : Act) (w : World), j + k = N → Inv j env → ARel η nt env a → Rd η0 H0 w0 ly D r η (Hs j) w →
      (Code.loop (.seq ch (.seq (.cond (.tmp tc) .skip (.exit e)) (.seq (.block b bodyB) ci)))).wpIn (Fr none) m P (fun ex a' w' => ex = .exit e ∧ ∃ η' env', ARel η' nt env' a' ∧ Inv N env' ∧ Rd η0 H0 w0 ly D r η' (Hs N) w') a w := by
  have main : ∀ (k j : Nat) (env : Env) (η : Eta) (a : Act) (w : World), j + k = N → Inv j env → ARel η nt env a → Rd η0 H0 w0 ly D r η (Hs j) w →
      LoopWpR none m P (.seq ch (.seq (.cond (.tmp tc) .skip (.exit e)) (.seq (.block b bodyB) ci))) (fun ex a' w' => ex = .exit e ∧ ∃ η' env', ARel η' nt env' a' ∧ Inv N env' ∧ Rd η0 H0 w0 ly D r η' (Hs N) w') a w := by
    intro k
    induction k with
    | zero =>
      intro j env η a w hjk hI ha hR
      have : j = N := by omega
      subst this
      obtain ⟨env1, g1, g2, g3⟩ := hh j env hI (Nat.le_refl _)
      refine loopWpR_step (wpIn_seq ((go_soundR hX hm _ _ _ _ _ _ _ g1).2 η a w ha hR.m.rel _ ?_))
      intro η1 a1 w1 ha1 m1
      refine wpIn_seq (wpIn_cond_false (val_bool (evC_sound ha1 (.tmp tc) (.bool false) (by simp only [evC]; rw [g2]; simp))) (wpIn_exit ?_))
      exact ⟨rfl, η1, env1, ha1, g3, hR.step h0 m1⟩
    | succ k ih =>
      intro j env η a w hjk hI ha hR
      have hj : j < N := by omega
      obtain ⟨env1, g1, g2, g3⟩ := hh j env hI (by omega)
      refine loopWpR_step (wpIn_seq ((go_soundR hX hm _ _ _ _ _ _ _ g1).2 η a w ha hR.m.rel _ ?_))
      intro η1 a1 w1 ha1 m1
      refine wpIn_seq (wpIn_cond_true (val_bool (evC_sound ha1 (.tmp tc) (.bool true) (by simp only [evC]; rw [g2, decide_eq_true hj]))) (wpIn_skip ?_))
      refine wpIn_seq (wpIn_block (wpIn_mono (hB j env1 η1 a1 w1 hj g3 ha1 (hR.step h0 m1)) ?_))
      rintro ex a2 w2 ⟨rfl, η2, env2, ha2, hI2, hR2⟩
      obtain ⟨env3, g4, g5⟩ := hi j env2 hj hI2
      show ci.wpIn (Fr none) m P _ a2 w2
      refine (go_soundR hX hm _ _ _ _ _ _ _ g4).2 η2 a2 w2 ha2 hR2.m.rel _ ?_
      intro η3 a3 w3 ha3 m3
      exact ih (j + 1) env3 η3 a3 w3 (by omega) g5 ha3 (hR2.step h0 m3)
  intro k j env η a w hjk hI ha hR
  exact loopWpR_wp (main k j env η a w hjk hI ha hR)

/-- The statement. -/
theorem range_stmt {n tg gf : Nat} {ps : Array Tmp} {assign body : Code} {a : Act} {lb : Array Value} {Q : Exit → Act → World → Prop} (hH : HRel η H w) (hg : a.eval (.tmp tg) = .func (.func gf) #[] lb) (eg : ∀ args w, (callFunc gf args).run P w = .ok (.enter gf args) w)
    (hseq : ∀ fn ly D W, Rd η H w ly D (recL fn a.tmps ps assign body D) η H W → CallsIn (Fr none) (n - 1) P gf (#[.func (.yield ly) #[] #[]] ++ lb) W fun e W' => (∃ v, e = .returned v) ∧ ∃ η', Rd η H w ly D (recL fn a.tmps ps assign body D) η' H' W')
    (hQ : ∀ η' D W', Moved η H w η' H' W' → w.heap.size ≤ D → W'.heap[D]? = some (.deferred (some [])) → Q .normal { a with defers := { target := .collected D, args := #[] } :: a.defers } W') :
    (Code.rangeFunc (.tmp tg) ps assign body).wpIn (Fr none) n P Q a w := by
  refine wpIn_rangeFunc ?_
  intro fn hfn
  obtain ⟨W1, hW1⟩ : ∃ W1, (w.alloc (.deferred (some []))).alloc (.loop (recL fn a.tmps ps assign body w.heap.size)) = W1 := ⟨_, rfl⟩
  have hs : (w.alloc (.deferred (some []))).heap.size = w.heap.size + 1 := by simp
  have hRd : Rd η H w (w.heap.size + 1) w.heap.size (recL fn a.tmps ps assign body w.heap.size) η H W1 := by
    rw [← hW1]
    refine ⟨((Moved.refl hH).alloc _).alloc _, ?_, ?_, by omega, Nat.le_refl _⟩
    · have := World.alloc_heap_new (w.alloc (.deferred (some []))) (.loop (recL fn a.tmps ps assign body w.heap.size))
      rwa [hs] at this
    · rw [heap_alloc_lt _ _ (by rw [hs]; omega)]
      exact World.alloc_heap_new w _
  refine ⟨w.heap.size + 1, [{ target := .collected w.heap.size, args := #[] }], W1, { target := .fn (.func gf) lb, args := #[.func (.yield (w.heap.size + 1)) #[] #[]] }, W1, gf,
    #[.func (.yield (w.heap.size + 1)) #[] #[]] ++ lb, W1, ?_, ?_, ?_, ?_, fun h => (by cases h), ?_⟩
  · rw [← hW1]; exact run_enterLoop_outer _ _ _ _ _
  · simp only [resolve, hg]
    simp [go_sem]
  · intro f' hf'; trivial
  · simp [invoke, go_sem, eg]
  · refine (hseq fn (w.heap.size + 1) w.heap.size W1 hRd).mono ?_
    rintro e W2 ⟨⟨v, rfl⟩, η', hR⟩
    have hend := run_endLoop (P := P) hR.hl (by simp [recL])
    refine ⟨none, _, hend, ?_⟩
    have hR2 := hR.turn { recL fn a.tmps ps assign body w.heap.size with state := .exhausted }
    exact hQ η' _ _ hR2.m hR2.ld hR2.hd

/-- The rounds, one after another. -/
def rounds (rec : RunFn) (nt : Nat) (env : Env) (ps : List Nat) (assign body : Code) (args : Nat → Heap → Option (List CV)) : Nat → Nat → Heap → Option Heap
  | 0, _, H => some H
  | k + 1, j, H => match args j H with
    | some ys => match Nat.beq ys.length ps.length with
      | true => match rec nt assign (setL env ps ys) H with
        | some (.normal, e1, H1) => match rec nt body e1 H1 with
          | some (.normal, _, H2) => rounds rec nt env ps assign body args k (j + 1) H2
          | _ => none
        | _ => none
      | false => none
    | none => none
theorem rounds_mono {rec rec' : RunFn} (h : RLe rec rec') {nt : Nat} {env : Env} {ps : List Nat} {assign body : Code} {args : Nat → Heap → Option (List CV)} : ∀ {k j : Nat} {H H' : Heap}, rounds rec nt env ps assign body args k j H = some H' → rounds rec' nt env ps assign body args k j H = some H'
  | 0, j, H, H', e => e
  | k + 1, j, H, H', e => by
    unfold rounds at e ⊢
    split at e
    · split at e
      · split at e
        · rename_i h1
          split at e
          · rename_i h2
            simp only [h _ _ _ _ _ h1, h _ _ _ _ _ h2]
            exact rounds_mono h e
          · cases e
        · cases e
      · cases e
    · cases e
theorem rounds_trace {rec : RunFn} {nt : Nat} {env : Env} {ps : List Nat} {assign body : Code} {args : Nat → Heap → Option (List CV)} : ∀ {k j : Nat} {H H' : Heap}, rounds rec nt env ps assign body args k j H = some H' →
    ∃ Hs : Nat → Heap, Hs j = H ∧ Hs (j + k) = H' ∧ ∀ i, j ≤ i → i < j + k → ∃ ys e1 H1 e2, args i (Hs i) = some ys ∧ ys.length = ps.length ∧ rec nt assign (setL env ps ys) (Hs i) = some (.normal, e1, H1) ∧ rec nt body e1 H1 = some (.normal, e2, Hs (i + 1))
  | 0, j, H, H', e => by
    simp only [rounds, Option.some.injEq] at e
    subst e
    exact ⟨fun _ => H, rfl, rfl, fun i h1 h2 => by omega⟩
  | k + 1, j, H, H', e => by
    unfold rounds at e
    split at e
    · rename_i ys hys
      split at e
      · rename_i hl
        split at e
        · rename_i e1 H1 h1
          split at e
          · rename_i e2 H2 h2
            obtain ⟨Hs, a1, a2, a3⟩ := rounds_trace e
            refine ⟨fun i => if i = j then H else Hs i, if_pos rfl, ?_, fun i hi1 hi2 => ?_⟩
            · show (if j + (k + 1) = j then H else Hs (j + (k + 1))) = H'
              rw [if_neg (by omega), show j + (k + 1) = j + 1 + k by omega]; exact a2
            · show ∃ ys e1 H1 e2, args i (if i = j then H else Hs i) = some ys ∧ _ ∧ rec nt assign (setL env ps ys) (if i = j then H else Hs i) = _ ∧ rec nt body e1 H1 = some (.normal, e2, if i + 1 = j then H else Hs (i + 1))
              rw [if_neg (show ¬ i + 1 = j by omega)]
              by_cases hij : i = j
              · subst hij
                simp only [if_true]
                exact ⟨ys, e1, H1, e2, hys, Nat.eq_of_beq_eq_true hl, h1, by rw [a1]; exact h2⟩
              · simp only [if_neg hij]
                exact a3 i (by omega) (by omega)
          · cases e
        · cases e
      · cases e
    · cases e

/-- With more calls put off. -/
def _root_.Go.Act.more (ds : List Deferred) (a : Act) : Act := { a with defers := a.defers ++ ds }
theorem _root_.Go.Act.more_put (ds : List Deferred) (a : Act) (d : Option Tmp) (v : Value) : (a.put d v).more ds = (a.more ds).put d v := by
  cases d <;> rfl
theorem _root_.Go.Act.more_eval (ds : List Deferred) (a : Act) : (a.more ds).eval = a.eval := rfl
theorem oper_more {ds : List Deferred} {o : Oper} {a : Act} {K : Act → World → Prop} {Q : Exit → Act → World → Prop} (h : o.wpIn (Fr l) m P a w (fun a w => K (a.more ds) w) (fun e a w => Q e (a.more ds) w)) : o.wpIn (Fr l) m P (a.more ds) w K Q := by
  refine ⟨fun _ _ => trivial, ?_⟩
  have h2 := h.2
  rw [Act.more_eval]
  revert h2
  generalize (o.semAt (Fr l).round a.eval).run P w = r
  intro h2
  cases r with
  | ok x w' =>
    cases x with
    | value v => rw [Oper.uponIn_value] at h2 ⊢; rw [← Act.more_put]; exact h2
    | skip => rw [Oper.uponIn_skip] at h2 ⊢; rw [← Act.more_put]; exact h2
    | defer d =>
      rw [Oper.uponIn_defer] at h2 ⊢
      rw [Act.more_put] at h2
      exact h2
    | enter f args =>
      rw [Oper.uponIn_enter] at h2 ⊢
      refine ⟨h2.1, h2.2.mono fun e w'' he => ?_⟩
      cases e with
      | returned v =>
        show K ((Act.more ds a).put o.dst v) w''
        rw [← Act.more_put]; exact he
      | panicked ch => exact he
      | outgrown => obtain ⟨a0, w0, hq⟩ := he; exact ⟨_, _, hq⟩
    | row row args =>
      rw [Oper.uponIn_row] at h2 ⊢
      exact ⟨h2.1, h2.2.mono fun v w'' he => by rw [← Act.more_put]; exact he⟩
    | round lr f tmps assign body =>
      rw [Oper.uponIn_round] at h2 ⊢
      refine ⟨h2.1, h2.2.mono fun e w'' he => ?_⟩
      cases e with
      | returned v =>
        show K ((Act.more ds a).put o.dst v) w''
        rw [← Act.more_put]; exact he
      | panicked ch => exact he
      | outgrown => obtain ⟨a0, w0, hq⟩ := he; exact ⟨_, _, hq⟩
    | _ => exact h2.elim
  | halt x w' =>
    cases x with
    | panic v => rw [Oper.uponIn_panic] at h2 ⊢; exact h2
    | _ => exact h2.elim
theorem list_more {ds : List Deferred} {ops : Array Oper} {Q : Exit → Act → World → Prop} : ∀ {os : List Oper} {a : Act} {w : World}, wpListIn (Fr l) m P ops (fun e a w => Q e (a.more ds) w) os a w → wpListIn (Fr l) m P ops Q os (a.more ds) w
  | [], a, w, h => h
  | o :: os, a, w, h => by
    unfold wpListIn at h ⊢
    show if Region.wanted o (yielded ops a.tmps) = true then _ else _
    split
    · rename_i hw
      rw [if_pos hw] at h
      refine oper_more (Oper.wpIn_mono (fun a w h => list_more h) h)
    · rename_i hw
      rw [if_neg hw] at h
      refine ⟨h.1, ?_⟩
      rw [← Act.more_put]
      exact list_more h.2
theorem any_more {ds : List Deferred} {ops : Array Oper} {Q : Exit → Act → World → Prop} : ∀ {fuel : Nat} {listed : Array Bool} {a : Act} {w : World}, wpAnyIn (Fr l) m P .any ops (fun e a w => Q e (a.more ds) w) fuel listed a w → wpAnyIn (Fr l) m P .any ops Q fuel listed (a.more ds) w
  | 0, listed, a, w, h => h
  | fuel + 1, listed, a, w, h => by
    refine ⟨h.1, fun i hi => ?_⟩
    have h2 := h.2 i hi
    unfold wpOpIn at h2 ⊢
    cases ho : ops[i]? with
    | none =>
      rw [ho] at h2
      exact any_more h2
    | some o =>
      rw [ho] at h2
      show if Region.wanted o (yielded ops a.tmps) = true then _ else _
      simp only at h2
      split
      · rename_i hw
        rw [if_pos hw] at h2
        exact oper_more (Oper.wpIn_mono (fun a w h => any_more h) h2)
      · rename_i hw
        rw [if_neg hw] at h2
        refine ⟨h2.1, ?_⟩
        rw [← Act.more_put]
        exact any_more h2.2

/-- A region behind such a loop. -/
theorem region_more {X : CallFn} (hX : CallOK P X) (hm : P.follows .mixedOrders = true) {nt id : Nat} {ops : Array Oper} {draw : Bool} {env env' : Env} {ds : List Deferred} {a : Act} (h : go P X nt (.region id ops draw) env H = some (.normal, env', H')) (ha : ARel η nt env a) (hH : HRel η H w)
    {Q : Exit → Act → World → Prop} (hQ : ∀ η' a' w', ARel η' nt env' a' → Moved η H w η' H' w' → Q .normal (a'.more ds) w') : (Code.region id ops draw).wpIn (Fr none) m P Q (a.more ds) w := by
  have hcall := calls_ok hX hm
  cases draw with
  | false =>
    rw [go_region] at h
    simp only [Option.map_eq_some_iff, Prod.mk.injEq, Prod.exists] at h
    obtain ⟨env1, H1, h1, _, rfl, rfl⟩ := h
    exact wpIn_region_list (list_more (seq_soundR hcall h1 ha hH hQ))
  | true =>
    rw [go_drawn] at h
    simp only [Option.map_eq_some_iff, Prod.mk.injEq, Prod.exists] at h
    obtain ⟨env1, H1, h1, _, rfl, rfl⟩ := h
    unfold drawC at h1
    split at h1
    · rename_i steps hplan
      split at h1
      · rename_i s hrun
        split at h1
        · rename_i HF hF
          simp only [Option.some.injEq, Prod.mk.injEq] at h1
          obtain ⟨rfl, rfl⟩ := h1
          obtain ⟨σ, e0, eF, hs⟩ := drawRun_trace hrun
          have S : Setting (calls P X) P nt ops H env steps σ := ⟨planC_ok hplan, e0, fun k x hx => stepIs (hs k x hx)⟩
          refine wpIn_region_any hm ?_
          have hH' : HRel η H (drawn w) := rel_drawn hH
          rw [← eF] at hF hQ
          refine any_more ?_
          refine any_soundR S hcall hH' hF (fun η' a' w' h1 h2 => hQ η' a' w' h1 h2.drawn') ops.size (Array.replicate ops.size false) 0 (H.skip ops.toList.length) η a (drawn w) (by simp) (by simp [unl_replicate]) ?_
          have I := S.inv_start hH' ha
          have : (fun i => (Array.replicate ops.size false).getD i false = true) = (fun _ => False) := by
            funext i
            apply propext
            simp [Array.getD_eq_getD_getElem?, Array.getElem?_replicate]
            split <;> rfl
          rw [this]; exact I
        · cases h1
      · cases h1
    · cases h1
end
end Go.K
