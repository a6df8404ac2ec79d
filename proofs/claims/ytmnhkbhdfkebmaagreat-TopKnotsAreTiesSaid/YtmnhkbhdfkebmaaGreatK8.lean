/- Regions that draw their order are sound (2): what holds at every moment of any order. Regions that draw their order are sound (3): the steps, and the whole. Regions that draw their order are sound (4): every order. -/
import Derived.Test.YtmnhkbhdfkebmaaGreatK7

set_option linter.unusedSimpArgs false
set_option linter.unusedVariables false

namespace Go.K
set_option linter.unusedSimpArgs false
set_option linter.unusedVariables false

theorem HRel.extend {η η' : Eta} {H : Heap} {w w' : World} (h : HRel η H w) (hle : η.le η') (hd : ∀ b x, η' b = some x → b < H.next) (hw : ∀ k, k < w.heap.size → w'.heap[k]? = w.heap[k]?) : HRel η' H w' := by
  have old : ∀ {b o x}, H.get b = some o → η' b = some x → η b = some x := by
    intro b o x hb hx
    obtain ⟨y, hy, _⟩ := h.obj b o hb
    have := hle b y hy
    rw [hx] at this; injection this with this; rw [this]; exact hy
  refine ⟨fun b o hb => ?_, hd, fun b b' o o' x x' hb hb' hx hx' => h.inj b b' o o' x x' hb hb' (old hb hx) (old hb' hx'), h.fam, h.famlt⟩
  obtain ⟨x, hx, r⟩ := h.obj b o hb
  exact ⟨x, hle b x hx, r.mono hle (hw _ r.lt)⟩

/-- A block that is there already, and shares its place with no other, is taken in. -/
theorem HRel.take {η : Eta} {H : Heap} {w : World} (h : HRel η H w) {b : Nat} {co : CObj} {y : Loc} (hy : η b = some y) (hr : ORel η y w co) (hf : co.fam = none)
    (hdis : ∀ b' o' y', H.get b' = some o' → η b' = some y' → b' ≠ b → y'.blk ≠ y.blk) : HRel η (H.put b co) w where
  obj := by
    intro k ok hk
    rw [Heap.get_put] at hk
    split at hk
    · rename_i e; subst e; injection hk with hk; subst hk; exact ⟨y, hy, hr⟩
    · exact h.obj k ok hk
  dom := h.dom
  inj := by
    intro k k' ok ok' x x' hk hk' hx hx' e ne
    rw [Heap.get_put] at hk hk'
    split at hk <;> split at hk'
    · rename_i e1 e2; exact absurd (e1.trans e2.symm) ne
    · rename_i e1 e2; subst e1
      rw [hy] at hx; injection hx with hx; subst hx
      exact absurd e.symm (hdis k' ok' x' hk' hx' (Ne.symm ne))
    · rename_i e1 e2; subst e2
      rw [hy] at hx'; injection hx' with hx'; subst hx'
      exact absurd e (hdis k ok x hk hx ne)
    · exact h.inj k k' ok ok' x x' hk hk' hx hx' e ne
  fam := by
    intro k ok f p hk e
    rw [Heap.get_put] at hk
    split at hk
    · injection hk with hk; subst hk; rw [hf] at e; cases e
    · exact h.fam k ok f p hk e
  famlt := by
    intro k ok f p hk e
    rw [Heap.get_put] at hk
    split at hk
    · injection hk with hk; subst hk; rw [hf] at e; cases e
    · exact h.famlt k ok f p hk e

/-- A block that some step has made, which the run's memory does not hold yet. -/
def Pend (η : Eta) (Hc : Heap) (w : World) (n0 : Nat) (b : Nat) (co : CObj) : Prop :=
  Hc.get b = none ∧ ∃ y, η b = some y ∧ ORel η y w co ∧ co.fam = none ∧ n0 ≤ y.blk ∧ ∀ b' o' y', Hc.get b' = some o' → η b' = some y' → b' ≠ b → y'.blk ≠ y.blk

theorem allocC_fam {P : Program} {op : Op} {ρ : Operand → Option CV} {co : CObj} {f : Nat → CV} (h : allocC P op ρ = some (co, f)) : co.fam = none := by
  unfold allocC at h
  split at h
  · simp only [Option.map_eq_some_iff, Prod.mk.injEq] at h; obtain ⟨_, _, rfl, _⟩ := h; rfl
  · simp only [Option.map_eq_some_iff, Prod.mk.injEq] at h; obtain ⟨_, _, rfl, _⟩ := h; rfl
  · split at h
    · simp only [Option.bind_eq_some_iff] at h
      obtain ⟨sz, _, h⟩ := h
      split at h
      · cases h
      · split at h
        · simp only [Option.bind_eq_some_iff, Option.map_eq_some_iff, Prod.mk.injEq] at h
          obtain ⟨_, _, _, _, _, _, rfl, _⟩ := h; rfl
        · cases h
    · cases h
  · simp only [Option.some.injEq, Prod.mk.injEq] at h; rw [← h.1]; rfl
  · split at h
    · split at h
      · split at h
        · cases h
        · split at h
          · simp only [Option.map_eq_some_iff, Prod.mk.injEq] at h; obtain ⟨_, _, rfl, _⟩ := h; rfl
          · cases h
      · cases h
    · cases h
  · cases h

theorem loudStep_grows {call : CallFn} {P : Program} (hcall : CallOK P call) {op : Op} {ρ : Operand → Option CV} {H H' : Heap} {v : CV} (h : loudStep call P op ρ H = some (v, H')) : Grows H H' := by
  unfold loudStep at h
  split at h
  · simp only [Option.bind_eq_some_iff] at h
    obtain ⟨⟨f, args⟩, _, hc⟩ := h
    exact (hcall f args H v H' hc).1
  · exact loudC_grows h

theorem putAll_next (base : Nat) : ∀ (g : List (Nat × CObj)) (H : Heap), (putAll base g H).next = H.next
  | [], H => rfl
  | (i, co) :: g, H => putAll_next base g H

theorem putAll_get (base : Nat) : ∀ (g : List (Nat × CObj)) (H : Heap) (b : Nat) (o : CObj), (putAll base g H).get b = some o → H.get b = some o ∨ ∃ i, (i, o) ∈ g ∧ b = base + i
  | [], H, b, o, h => .inl h
  | (i, co) :: g, H, b, o, h => by
    simp only [putAll, Heap.get_put] at h
    split at h
    · rename_i e; injection h with h; subst h; exact .inr ⟨i, by simp, e⟩
    · rcases putAll_get base g H b o h with h | ⟨j, hj, e⟩
      · exact .inl h
      · exact .inr ⟨j, by simp [hj], e⟩

namespace Setting
variable {call : CallFn} {P : Program} {nt : Nat} {ops : Array Oper} {H0 : Heap} {env0 : Env} {steps : List PStep} {σ : Nat → DS}

def allocAt (P : Program) (ops : Array Oper) (steps : List PStep) (σ : Nat → DS) (k : Nat) (co : CObj) : Prop :=
  ∃ x f, steps[k]? = some x ∧ wantedC ops (σ k).env x.op = some true ∧ kindOf P x.op.op = .alloc ∧ allocC P x.op.op (evR x.reads (σ k).env) = some (co, f)

/-- What waits at a position was made since the last loud operation. -/
theorem grp_alloc (S : Setting call P nt ops H0 env0 steps σ) : ∀ k, k ≤ steps.length → ∀ i co, (i, co) ∈ (σ k).grp →
    ∃ k' x, k' < k ∧ steps[k']? = some x ∧ x.idx = i ∧ cnt steps k' = cnt steps k ∧ allocAt P ops steps σ k' co
  | 0, _, i, co, h => by rw [S.zero] at h; simp at h
  | k + 1, hk, i, co, h => by
    obtain ⟨x, hx⟩ : ∃ x, steps[k]? = some x := ⟨_, List.getElem?_eq_getElem (by omega)⟩
    have hl := S.loud_eq hx
    have hnl : x.loud = false → cnt steps (k + 1) = cnt steps k := by intro h; rw [cnt_succ hx, h]; simp
    have lift : (i, co) ∈ (σ k).grp → x.loud = false → ∃ k' x, k' < k + 1 ∧ steps[k']? = some x ∧ x.idx = i ∧ cnt steps k' = cnt steps (k + 1) ∧ allocAt P ops steps σ k' co := by
      intro hm hf
      obtain ⟨k', x', h1, h2, h3, h4, h5⟩ := S.grp_alloc k (by omega) i co hm
      exact ⟨k', x', by omega, h2, h3, h4.trans (hnl hf).symm, h5⟩
    have notl : kindOf P x.op.op ≠ .loud → x.loud = false := by
      intro h
      cases hb : x.loud with
      | false => rfl
      | true => exact absurd (hl.1 hb) h
    cases S.step k x hx with
    | skip H hs eh w p l =>
      rcases l with ⟨l1, l2, l3⟩ | ⟨l1, l2, l3⟩
      · rw [l3] at h; simp at h
      · rw [l3] at h; exact lift h l1
    | quiet H hs v eh w kd q same p e1 e2 => rw [e2] at h; exact lift h (notl (by rw [kd]; simp))
    | alloc H hs co' f eh w kd q p e1 e2 =>
      have hf := notl (by rw [kd]; simp)
      rw [e2] at h
      rcases List.mem_cons.1 h with e | h
      · cases e
        exact ⟨k, x, Nat.lt_succ_self k, hx, rfl, (hnl hf).symm, x, f, hx, w, kd, q⟩
      · exact lift h hf
    | loud H hs v H' eh w kd q p e1 e2 => rw [e2] at h; simp at h

/-- The memories of a run hold blocks that were there, or that are its own. -/
theorem gblocks (S : Setting call P nt ops H0 env0 steps σ) (hcall : CallOK P call) : ∀ k, k ≤ steps.length → ∀ H ∈ (σ k).hs,
    H0.next + ops.toList.length ≤ H.next ∧ ∀ b o, H.get b = some o → (∃ o0, H0.get b = some o0 ∧ o0.isLook = o.isLook) ∨ H0.next ≤ b
  | 0, _, H, h => by
    rw [S.zero] at h
    simp only [List.mem_singleton] at h
    subst h
    exact ⟨Nat.le_refl _, fun b o hb => .inl ⟨o, hb, rfl⟩⟩
  | k + 1, hk, H, h => by
    obtain ⟨x, hx⟩ : ∃ x, steps[k]? = some x := ⟨_, List.getElem?_eq_getElem (by omega)⟩
    have ih := S.gblocks hcall k (by omega)
    have put : ∀ G, G ∈ (σ k).hs → ∀ b o, (putAll H0.next (σ k).grp G).get b = some o → (∃ o0, H0.get b = some o0 ∧ o0.isLook = o.isLook) ∨ H0.next ≤ b := by
      intro G hG b o hb
      rcases putAll_get _ _ _ _ _ hb with hb | ⟨i, _, e⟩
      · exact (ih G hG).2 b o hb
      · exact .inr (by omega)
    cases S.step k x hx with
    | skip G hs eh w p l =>
      have hG : G ∈ (σ k).hs := by rw [eh]; simp
      rcases l with ⟨l1, l2, l3⟩ | ⟨l1, l2, l3⟩
      · rw [l2] at h
        rcases List.mem_cons.1 h with e | h
        · subst e; exact ⟨by rw [putAll_next]; exact (ih G hG).1, put G hG⟩
        · exact ih H (by rw [eh]; exact h)
      · exact ih H (by rw [eh]; rw [l2] at h; exact h)
    | quiet G hs v eh w kd q same p e1 e2 => exact ih H (by rw [eh]; rw [e1] at h; exact h)
    | alloc G hs co f eh w kd q p e1 e2 => exact ih H (by rw [eh]; rw [e1] at h; exact h)
    | loud G hs v G' eh w kd q p e1 e2 =>
      have hG : G ∈ (σ k).hs := by rw [eh]; simp
      rw [e1] at h
      rcases List.mem_cons.1 h with e | h
      · subst e
        have hg := loudStep_grows hcall q
        have hn := (ih G hG).1
        refine ⟨Nat.le_trans (by rw [putAll_next]; exact hn) hg.1, fun b o hb => ?_⟩
        rcases hg.2 b o hb with ⟨o1, h1, h1'⟩ | h1
        · rcases put G hG b o1 h1 with ⟨o2, h2, h2'⟩ | h2
          · exact .inl ⟨o2, h2, h2'.trans h1'⟩
          · exact .inr h2
        · rw [putAll_next] at h1; exact .inr (by omega)
      · exact ih H (by rw [eh]; exact h)

theorem gat (S : Setting call P nt ops H0 env0 steps σ) (hcall : CallOK P call) {c : Nat} {Hc : Heap} (h : at_ steps σ c = some Hc) :
    H0.next + ops.toList.length ≤ Hc.next ∧ ∀ b o, Hc.get b = some o → (∃ o0, H0.get b = some o0 ∧ o0.isLook = o.isLook) ∨ H0.next ≤ b := by
  refine S.gblocks hcall steps.length (Nat.le_refl _) Hc ?_
  have := List.mem_of_getElem? h
  simpa using this

structure Inv (call : CallFn) (P : Program) (nt : Nat) (ops : Array Oper) (H0 : Heap) (env0 : Env) (steps : List PStep) (σ : Nat → DS) (η0 : Eta) (w0 : World) (T : Nat → Prop) (c : Nat) (Hc : Heap) (η : Eta) (a : Act) (w : World) : Prop where
  closed : Closed ops.toList T
  lt : ∀ i, T i → i < ops.toList.length
  louds : ∀ q l, (seqOf steps)[q]? = some l → (T l ↔ q < c)
  cle : c ≤ (seqOf steps).length
  hc : at_ steps σ c = some Hc
  defers : a.defers = []
  size : a.tmps.size = nt
  tmps : ∀ t v, ES ops env0 (σ steps.length).env T t = some v → ∃ u, v.val η = some u ∧ a.tmps[t]? = some u
  rel : HRel η Hc w
  pend : ∀ k x co, steps[k]? = some x → T x.idx → c ≤ cnt steps k → allocAt P ops steps σ k co → Pend η Hc w w0.heap.size (H0.next + x.idx) co
  pdis : ∀ k x co k' x' co' y y', steps[k]? = some x → T x.idx → c ≤ cnt steps k → allocAt P ops steps σ k co → steps[k']? = some x' → T x'.idx → c ≤ cnt steps k' → allocAt P ops steps σ k' co' →
    η (H0.next + x.idx) = some y → η (H0.next + x'.idx) = some y' → y.blk = y'.blk → x.idx = x'.idx
  free : ∀ i, i < ops.toList.length → ¬ T i → η (H0.next + i) = none
  keeps : Keeps η0 H0 w0 η w
  old : ∀ b o x, (Hc.get b = some o ∧ o.isLook = false) → η b = some x → w0.heap.size ≤ x.blk ∨ ∃ b0 o0 x0, (H0.get b0 = some o0 ∧ o0.isLook = false) ∧ η0 b0 = some x0 ∧ x0.blk = x.blk

section
variable {η0 : Eta} {w0 : World} {T : Nat → Prop} {c : Nat} {Hc : Heap} {η : Eta} {a : Act} {w : World}

theorem evR_sound (S : Setting call P nt ops H0 env0 steps σ) (I : Inv call P nt ops H0 env0 steps σ η0 w0 T c Hc η a w) {k : Nat} {x : PStep} (hx : steps[k]? = some x) (hno : ¬ T x.idx)
    (hr : ∀ e ∈ x.op.after.toList, Region.binds .any e = true → T e.on) : ∀ op v, evR x.reads (σ k).env op = some v → v.val η = some (a.eval op) := by
  intro op v h
  cases op with
  | tmp t =>
    simp only [evR] at h
    split at h
    · rename_i hm
      rw [S.reads_agree I.closed hx hno hr (memN_iff.1 hm)] at h
      obtain ⟨u, hu, ht⟩ := I.tmps t v h
      simp only [Act.eval, Array.getD_eq_getD_getElem?, ht, Option.getD_some, hu]
    · cases h
  | const c => exact ofVal_sound 8 c v h
  | global g => simp [evR, evC] at h
  | func f => simp only [evR, evC, Option.some.injEq] at h; subst h; rfl

theorem wanted_sound (S : Setting call P nt ops H0 env0 steps σ) (I : Inv call P nt ops H0 env0 steps σ η0 w0 T c Hc η a w) {k : Nat} {x : PStep} (hx : steps[k]? = some x) (hno : ¬ T x.idx)
    (hr : ∀ e ∈ x.op.after.toList, Region.binds .any e = true → T e.on) {b : Bool} (e : wantedC ops (σ k).env x.op = some b) : Region.wanted x.op (yielded ops a.tmps) = b := by
  unfold wantedC at e
  unfold Region.wanted
  split at e
  · rename_i hg; rw [hg]; injection e
  · rename_i j want hg
    rw [hg]
    simp only
    unfold yielded
    split at e
    · rename_i t ht
      rw [ht]
      have hmem : t ∈ x.reads := by
        rw [(S.plan.mem k x hx).2.1]
        unfold readsOf guardTmp
        rw [hg]
        simp only
        cases hoj : ops[j]? with
        | none => rw [hoj] at ht; simp at ht
        | some oj =>
          rw [hoj] at ht
          simp only [Option.bind_some] at ht
          simp [Array.getElem?_toList, hoj, ht]
      have hag := S.reads_agree I.closed hx hno hr hmem
      split at e
      · rename_i b' hb
        rw [hag] at hb
        obtain ⟨v, hv, htv⟩ := I.tmps t _ hb
        rw [val_bool hv] at htv
        injection e with e; subst e
        simp only [Option.bind_some, htv]
        cases b' <;> cases want <;> rfl
      · rename_i c' hne hc
        rw [hag] at hc
        obtain ⟨v, hv, htv⟩ := I.tmps t _ hc
        injection e with e; subst e
        simp only [Option.bind_some, htv]
        have : ∀ b, v ≠ .bool b := by
          intro b e
          subst e
          cases c' with
          | bool b' => exact hne b' rfl
          | slice b off len cap => obtain ⟨a, c, e⟩ := val_slice hv; cases e
          | func fn a b => obtain ⟨l, m, _, _, e⟩ := val_func hv; cases e
          | iface t c => obtain ⟨l, _, e⟩ := val_iface hv; cases e
          | agg cs => obtain ⟨l, _, e⟩ := vals_agg hv; cases e
          | tuple cs => obtain ⟨l, _, e⟩ := val_tuple hv; cases e
          | ptr b off => obtain ⟨x, _, e⟩ := val_ptr hv; cases e
          | map b => obtain ⟨x, _, e⟩ := val_map hv; cases e
          | _ => simp [CV.val] at hv
        cases v <;> first | (exact absurd rfl (this _)) | (cases want <;> rfl)
      · cases e
    · rename_i hn
      injection e with e; subst e
      rw [hn]
      cases want <;> rfl

/-- The variables behind one operation more. -/
theorem tmps_put (S : Setting call P nt ops H0 env0 steps σ) (I : Inv call P nt ops H0 env0 steps σ η0 w0 T c Hc η a w) {k : Nat} {x : PStep} (hx : steps[k]? = some x) {v : CV} {u : Value} {η' : Eta} (hle : η.le η')
    (hp : putC nt (σ k).env x.op.dst v = some (σ (k + 1)).env) (hv : v.val η' = some u) :
    (a.put x.op.dst u).defers = [] ∧ (a.put x.op.dst u).tmps.size = nt ∧
      ∀ t v', ES ops env0 (σ steps.length).env (fun j => T j ∨ j = x.idx) t = some v' → ∃ u', v'.val η' = some u' ∧ (a.put x.op.dst u).tmps[t]? = some u' := by
  have hlt := (List.getElem?_eq_some_iff.1 hx).1
  have hxo := (S.plan.mem k x hx).1
  refine ⟨by cases hd : x.op.dst <;> simp [Act.put, I.defers], by cases hd : x.op.dst <;> simp [Act.put, I.size], fun t v' ht => ?_⟩
  obtain ⟨g1, g2⟩ := putC_get hp
  by_cases hd : x.op.dst = some t
  · obtain ⟨hget, hnt⟩ := g2 t hd
    have : ES ops env0 (σ steps.length).env (fun j => T j ∨ j = x.idx) t = some v := by
      unfold ES
      rw [if_pos ⟨x.idx, x.op, hxo, hd, .inr rfl⟩, ← (S.written hx hd).1 (k + 1) (Nat.lt_succ_self k) (by omega), hget]
    rw [this] at ht; injection ht with ht; subst ht
    refine ⟨u, hv, ?_⟩
    simp [Act.put, hd, I.size, hnt]
  · have : ES ops env0 (σ steps.length).env (fun j => T j ∨ j = x.idx) t = ES ops env0 (σ steps.length).env T t := by
      unfold ES
      have hiff : (∃ (i : Nat) (o : Oper), ops.toList[i]? = some o ∧ o.dst = some t ∧ (T i ∨ i = x.idx)) ↔ (∃ (i : Nat) (o : Oper), ops.toList[i]? = some o ∧ o.dst = some t ∧ T i) := by
        constructor
        · rintro ⟨i, o, h1, h2, h3 | h3⟩
          · exact ⟨i, o, h1, h2, h3⟩
          · subst h3; rw [hxo] at h1; injection h1 with h1; subst h1; exact absurd h2 hd
        · rintro ⟨i, o, h1, h2, h3⟩; exact ⟨i, o, h1, h2, .inl h3⟩
      by_cases h : ∃ (i : Nat) (o : Oper), ops.toList[i]? = some o ∧ o.dst = some t ∧ T i
      · rw [if_pos (hiff.2 h), if_pos h]
      · rw [if_neg (fun h' => h (hiff.1 h')), if_neg h]
    rw [this] at ht
    obtain ⟨u', hu', ht'⟩ := I.tmps t v' ht
    refine ⟨u', CV.val_mono hle _ _ hu', ?_⟩
    cases hd' : x.op.dst with
    | none => exact ht'
    | some d =>
      have : d ≠ t := fun e => hd (by rw [hd', e])
      simp only [Act.put]
      rw [Array.getElem?_setIfInBounds_ne this]; exact ht'

theorem closed_more (S : Setting call P nt ops H0 env0 steps σ) (hT : Closed ops.toList T) {k : Nat} {x : PStep} (hx : steps[k]? = some x)
    (hr : ∀ e ∈ x.op.after.toList, Region.binds .any e = true → T e.on) : Closed ops.toList (fun j => T j ∨ j = x.idx) := by
  intro j o ho hj e he hb
  rcases hj with hj | rfl
  · exact .inl (hT j o ho hj e he hb)
  · have hxo := (S.plan.mem k x hx).1
    rw [ho] at hxo; injection hxo with hxo; subst hxo
    exact .inl (hr e he hb)

/-- Where a ready operation stands among the loud ones. -/
theorem stand (S : Setting call P nt ops H0 env0 steps σ) (I : Inv call P nt ops H0 env0 steps σ η0 w0 T c Hc η a w) {k : Nat} {x : PStep} (hx : steps[k]? = some x) (hno : ¬ T x.idx)
    (hr : ∀ e ∈ x.op.after.toList, Region.binds .any e = true → T e.on) : (x.loud = true → c = cnt steps k) ∧ (x.loud = false → c ≤ cnt steps k ∧ x.lev ≤ c) := by
  have hxo := (S.plan.mem k x hx).1
  have hchk := S.plan.chk k x hx
  unfold chkStep at hchk
  constructor
  · intro hl
    rw [hl] at hchk
    have hseq := seq_at hx hl
    have h1 : ¬ cnt steps k < c := fun h => hno ((I.louds _ _ hseq).2 h)
    simp only at hchk
    unfold cnt at h1 ⊢
    cases hq : (seqOf (steps.take k)).length with
    | zero => omega
    | succ q =>
      rw [hq] at hchk
      simp only at hchk
      cases hs : (seqOf steps)[q]? with
      | none => rw [hs] at hchk; cases hchk
      | some l =>
        rw [hs] at hchk
        have := dep_sound I.closed x.idx l x.op hxo hr hchk
        have := (I.louds q l hs).1 this
        omega
  · intro hl
    rw [hl] at hchk
    simp only [Bool.and_eq_true] at hchk
    constructor
    · rcases Nat.lt_or_ge (cnt steps k) c with h | h
      · exfalso
        have hlt : cnt steps k < (seqOf steps).length := Nat.lt_of_lt_of_le h I.cle
        have hs : (seqOf steps)[cnt steps k]? = some (seqOf steps)[cnt steps k] := List.getElem?_eq_getElem hlt
        have h1 := hchk.1
        have hs' : (seqOf steps)[(seqOf (steps.take k)).length]? = some (seqOf steps)[cnt steps k] := hs
        rw [hs'] at h1
        have hTl := (I.louds _ _ hs).2 h
        -- the loud operation has been carried out, and what it hangs on too
        obtain ⟨k', s', hk', he⟩ := S.plan.all _ (I.lt _ hTl)
        have ho' := (S.plan.mem k' s' hk').1
        rw [he] at ho'
        exact hno (dep_sound I.closed _ x.idx s'.op ho' (fun e h2 h3 => I.closed _ _ ho' hTl e h2 h3) h1)
      · exact h
    · have h2 := hchk.2
      cases hv : x.lev with
      | zero => omega
      | succ v =>
        rw [hv] at h2
        simp only at h2
        cases hs : (seqOf steps)[v]? with
        | none => rw [hs] at h2; cases h2
        | some l =>
          rw [hs] at h2
          have := dep_sound I.closed x.idx l x.op hxo hr h2
          have := (I.louds v l hs).1 this
          omega

end
end Setting
end Go.K

namespace Go.K
set_option linter.unusedSimpArgs false
set_option linter.unusedVariables false

theorem loudStep_sound {P : Program} {η : Eta} {H : Heap} {w : World} {call : CallFn} (hcall : CallOK P call) {ρ : Operand → Option CV} {a : Act} {o : Oper} {c : CV} {H' : Heap} {K : Act → World → Prop} {Q : Exit → Act → World → Prop}
    (hρ : ∀ x c, ρ x = some c → c.val η = some (a.eval x)) (hH : HRel η H w) (h : loudStep call P o.op ρ H = some (c, H')) (hK : ∀ η' v w', c.val η' = some v → Moved η H w η' H' w' → K (a.put o.dst v) w') : o.wp P a w K Q := by
  unfold Oper.wp
  unfold loudStep at h
  split at h
  · rename_i cl hcl
    simp only [Option.bind_eq_some_iff] at h
    obtain ⟨⟨f, args⟩, ht, hc⟩ := h
    simp only at hc
    obtain ⟨dst, op, type, pos, after, guard⟩ := o
    have hop : op = .call cl := by
      simp only at hcl
      unfold isCall at hcl
      split at hcl
      · split at hcl
        · cases hcl
        · injection hcl with hcl; rw [hcl]
      · cases hcl
    subst hop
    obtain ⟨vs, hvs, hrun⟩ := targetC_sound hH hρ type ht
    obtain ⟨hg, hinv⟩ := hcall f args H c H' hc
    simp only [execOp]
    rw [hrun]
    rcases hinv η w vs hH hvs with ⟨he, hcalls⟩ | ⟨v, w', hval, η', v', e, hv', hrel, hk⟩
    · rw [he, Oper.upon_enter]
      refine hcalls.mono ?_
      rintro e w' ⟨η', v, rfl, hv, hrel, hk⟩
      exact hK η' v w' hv ⟨hrel, hk, hg⟩
    · rw [hval, Oper.upon_value]
      injection e with e; subst e
      exact hK η' v w' hv' ⟨hrel, hk, hg⟩
  · obtain ⟨η', v, w', hv, hr, hrel, hk⟩ := loud_sound hH hρ o h
    have hg := loudC_grows h
    rcases hr with hr | ⟨hr, rfl⟩
    · rw [hr, Oper.upon_value]; exact hK η' v w' hv ⟨hrel, hk, hg⟩
    · rw [hr, Oper.upon_skip]; exact hK η' undef w' hv ⟨hrel, hk, hg⟩

theorem seqOf_mem : ∀ {steps : List PStep} {q l : Nat}, (seqOf steps)[q]? = some l → ∃ k x, steps[k]? = some x ∧ x.loud = true ∧ x.idx = l ∧ (seqOf (steps.take k)).length = q
  | [], q, l, h => by simp [seqOf] at h
  | s :: ss, q, l, h => by
    simp only [seqOf] at h
    split at h
    · rename_i hl
      cases q with
      | zero => simp at h; exact ⟨0, s, rfl, hl, h, by simp [seqOf]⟩
      | succ q =>
        obtain ⟨k, x, h1, h2, h3, h4⟩ := seqOf_mem (steps := ss) (by simpa using h)
        exact ⟨k + 1, x, by simpa using h1, h2, h3, by simp [seqOf, hl, h4]⟩
    · rename_i hl
      obtain ⟨k, x, h1, h2, h3, h4⟩ := seqOf_mem (steps := ss) h
      exact ⟨k + 1, x, by simpa using h1, h2, h3, by simp [seqOf, hl, h4]⟩

theorem takeAll {η : Eta} {Hc : Heap} {w : World} {n0 base : Nat} (hH : HRel η Hc w) : ∀ (g : List (Nat × CObj)), (∀ i co, (i, co) ∈ g → Pend η Hc w n0 (base + i) co) →
    (∀ i co j co' y y', (i, co) ∈ g → (j, co') ∈ g → η (base + i) = some y → η (base + j) = some y' → y.blk = y'.blk → i = j) → HRel η (putAll base g Hc) w
  | [], _, _ => hH
  | (i, co) :: g, hp, hd => by
    have ih := takeAll hH g (fun j co' h => hp j co' (by simp [h])) (fun j co1 k co2 y y' h1 h2 => hd j co1 k co2 y y' (by simp [h1]) (by simp [h2]))
    obtain ⟨_, y, hy, hr, hf, _, hdis⟩ := hp i co (by simp)
    refine ih.take hy hr hf ?_
    intro b' o' y' hb' hy' hne e
    rcases putAll_get _ _ _ _ _ hb' with hb' | ⟨j, hj, ej⟩
    · exact hdis b' o' y' hb' hy' hne e
    · subst ej
      have := hd i co j o' y y' (by simp) (by simp [hj]) hy hy' e.symm
      exact hne (by rw [this])

namespace Setting
variable {call : CallFn} {P : Program} {nt : Nat} {ops : Array Oper} {H0 : Heap} {env0 : Env} {steps : List PStep} {σ : Nat → DS}
variable {η0 : Eta} {w0 : World} {T : Nat → Prop} {c : Nat} {Hc : Heap} {η : Eta} {a : Act} {w : World}

theorem louds_quiet (S : Setting call P nt ops H0 env0 steps σ) {k : Nat} {x : PStep} (hx : steps[k]? = some x) (hl : x.loud = false) (h : ∀ q l, (seqOf steps)[q]? = some l → (T l ↔ q < c)) :
    ∀ q l, (seqOf steps)[q]? = some l → ((T l ∨ l = x.idx) ↔ q < c) := by
  intro q l hq
  rw [← h q l hq]
  constructor
  · rintro (h1 | rfl)
    · exact h1
    · obtain ⟨k', x', h1, h2, h3, _⟩ := seqOf_mem hq
      have := S.plan.inj k' k x' x h1 hx h3
      subst this
      rw [hx] at h1; injection h1 with h1; subst h1
      rw [hl] at h2; cases h2
  · exact .inl

/-- A step that leaves memory alone. -/
theorem inv_quiet (S : Setting call P nt ops H0 env0 steps σ) (I : Inv call P nt ops H0 env0 steps σ η0 w0 T c Hc η a w) {k : Nat} {x : PStep} (hx : steps[k]? = some x)
    (hr : ∀ e ∈ x.op.after.toList, Region.binds .any e = true → T e.on) (hl : x.loud = false) (hna : ∀ co, ¬ allocAt P ops steps σ k co) {v : CV} {u : Value}
    (hp : putC nt (σ k).env x.op.dst v = some (σ (k + 1)).env) (hv : v.val η = some u) :
    Inv call P nt ops H0 env0 steps σ η0 w0 (fun j => T j ∨ j = x.idx) c Hc η (a.put x.op.dst u) w := by
  obtain ⟨t1, t2, t3⟩ := S.tmps_put I hx (η.le_refl) hp hv
  have hidx : x.idx < ops.toList.length := (List.getElem?_eq_some_iff.1 (S.plan.mem k x hx).1).1
  have nota : ∀ {k' x' co}, steps[k']? = some x' → (T x'.idx ∨ x'.idx = x.idx) → allocAt P ops steps σ k' co → T x'.idx := by
    intro k' x' co hx' ht ha
    rcases ht with ht | ht
    · exact ht
    · have := S.plan.inj k' k x' x hx' hx ht
      subst this
      exact absurd ha (hna co)
  refine ⟨S.closed_more I.closed hx hr, ?_, S.louds_quiet hx hl I.louds, I.cle, I.hc, t1, t2, t3, I.rel, ?_, ?_, ?_, I.keeps, I.old⟩
  · rintro i (h | rfl)
    · exact I.lt i h
    · exact hidx
  · intro k' x' co hx' ht hc' ha
    exact I.pend k' x' co hx' (nota hx' ht ha) hc' ha
  · intro k1 x1 co1 k2 x2 co2 y y' h1 ht1 hc1 ha1 h2 ht2 hc2 ha2
    exact I.pdis k1 x1 co1 k2 x2 co2 y y' h1 (nota h1 ht1 ha1) hc1 ha1 h2 (nota h2 ht2 ha2) hc2 ha2
  · intro i hi hno
    exact I.free i hi fun h => hno (.inl h)

/-- A step that makes a block. -/
theorem inv_alloc (S : Setting call P nt ops H0 env0 steps σ) (hcall : CallOK P call) (I : Inv call P nt ops H0 env0 steps σ η0 w0 T c Hc η a w) {k : Nat} {x : PStep} (hx : steps[k]? = some x) (hno : ¬ T x.idx)
    (hr : ∀ e ∈ x.op.after.toList, Region.binds .any e = true → T e.on) (hl : x.loud = false) {co : CObj} {f : Nat → CV} (hq : allocC P x.op.op (evR x.reads (σ k).env) = some (co, f))
    (hp : putC nt (σ k).env x.op.dst (f (H0.next + x.idx)) = some (σ (k + 1)).env) {obj : Obj} {v : Value} {y : Loc} (hy : y.blk = w.heap.size) (hv : (f (H0.next + x.idx)).val (η.ins (H0.next + x.idx) y) = some v)
    (hor : ORel (η.ins (H0.next + x.idx) y) y (pushed w obj) co) :
    Inv call P nt ops H0 env0 steps σ η0 w0 (fun j => T j ∨ j = x.idx) c Hc (η.ins (H0.next + x.idx) y) (a.put x.op.dst v) (pushed w obj) := by
  have hidx : x.idx < ops.toList.length := (List.getElem?_eq_some_iff.1 (S.plan.mem k x hx).1).1
  have hn := I.free x.idx hidx hno
  have hle : η.le (η.ins (H0.next + x.idx) y) := Eta.le_ins hn
  obtain ⟨t1, t2, t3⟩ := S.tmps_put I hx hle hp hv
  have hnone : Hc.get (H0.next + x.idx) = none := by
    cases e : Hc.get (H0.next + x.idx) with
    | none => rfl
    | some o => obtain ⟨z, hz, _⟩ := I.rel.obj _ _ e; rw [hn] at hz; cases hz
  have oldη : ∀ {b o z}, Hc.get b = some o → (η.ins (H0.next + x.idx) y) b = some z → η b = some z := by
    intro b o z hb hz
    have : b ≠ H0.next + x.idx := fun e => by rw [e, hnone] at hb; cases hb
    rwa [Eta.ins_ne _ _ this] at hz
  have same : ∀ {k' x' co'}, steps[k']? = some x' → x'.idx = x.idx → allocAt P ops steps σ k' co' → co' = co := by
    intro k' x' co' hx' e ha
    have := S.plan.inj k' k x' x hx' hx e
    subst this
    obtain ⟨x2, f2, g1, g2, g3, g4⟩ := ha
    rw [hx] at g1; injection g1 with g1; subst g1
    rw [hq] at g4
    simp only [Option.some.injEq, Prod.mk.injEq] at g4
    exact g4.1.symm
  have oldblk : ∀ {k' x' co'}, steps[k']? = some x' → T x'.idx → c ≤ cnt steps k' → allocAt P ops steps σ k' co' → ∀ z, η (H0.next + x'.idx) = some z → z.blk < w.heap.size := by
    intro k' x' co' hx' ht hc' ha z hz
    obtain ⟨_, z', hz', hr', _⟩ := I.pend k' x' co' hx' ht hc' ha
    rw [hz] at hz'; injection hz' with hz'; subst hz'
    exact hr'.lt
  refine ⟨S.closed_more I.closed hx hr, ?_, S.louds_quiet hx hl I.louds, I.cle, I.hc, t1, t2, t3, ?_, ?_, ?_, ?_, ?_, ?_⟩
  · rintro i (h | rfl)
    · exact I.lt i h
    · exact hidx
  · refine I.rel.extend hle ?_ (fun k hk => pushed_lt w obj hk)
    intro b z hz
    by_cases e : b = H0.next + x.idx
    · have := (S.gat hcall I.hc).1; omega
    · rw [Eta.ins_ne _ _ e] at hz; exact I.rel.dom b z hz
  · intro k' x' co' hx' ht hc' ha
    by_cases e : x'.idx = x.idx
    · have := same hx' e ha
      subst this
      rw [e]
      refine ⟨hnone, y, Eta.ins_same .., hor, allocC_fam hq, by rw [hy]; exact I.keeps.size, fun b' o' y' hb' hy' _ e' => ?_⟩
      obtain ⟨z, hz, rz⟩ := I.rel.obj b' o' hb'
      rw [oldη hb' hy'] at hz; injection hz with hz; subst hz
      have := rz.lt
      omega
    · have ht' : T x'.idx := ht.resolve_right e
      obtain ⟨h0, z, hz, rz, hf, hn0, hd⟩ := I.pend k' x' co' hx' ht' hc' ha
      refine ⟨h0, z, hle _ _ hz, rz.mono hle (pushed_lt w obj rz.lt), hf, hn0, fun b' o' y' hb' hy' hne => hd b' o' y' hb' (oldη hb' hy') hne⟩
  · intro k1 x1 co1 k2 x2 co2 z1 z2 h1 ht1 hc1 ha1 h2 ht2 hc2 ha2 hz1 hz2 e
    by_cases e1 : x1.idx = x.idx
    · by_cases e2 : x2.idx = x.idx
      · rw [e1, e2]
      · exfalso
        rw [e1, Eta.ins_same] at hz1; injection hz1 with hz1; subst hz1
        rw [Eta.ins_ne _ _ (by omega)] at hz2
        have := oldblk h2 (ht2.resolve_right e2) hc2 ha2 _ hz2
        omega
    · rw [Eta.ins_ne _ _ (by omega)] at hz1
      by_cases e2 : x2.idx = x.idx
      · exfalso
        rw [e2, Eta.ins_same] at hz2; injection hz2 with hz2; subst hz2
        have := oldblk h1 (ht1.resolve_right e1) hc1 ha1 _ hz1
        omega
      · rw [Eta.ins_ne _ _ (by omega)] at hz2
        exact I.pdis k1 x1 co1 k2 x2 co2 z1 z2 h1 (ht1.resolve_right e1) hc1 ha1 h2 (ht2.resolve_right e2) hc2 ha2 hz1 hz2 e
  · intro i hi hno'
    rw [Eta.ins_ne _ _ (fun e => hno' (.inr (by omega)))]
    exact I.free i hi fun h => hno' (.inl h)
  · refine ⟨I.keeps.os, I.keeps.tape, I.keeps.output, Nat.le_trans I.keeps.size (by simp [pushed]), fun j hj hnb => ?_, Eta.le_trans I.keeps.le hle, fun b z h1 h2 => ?_⟩
    · rw [pushed_lt w obj (Nat.lt_of_lt_of_le hj I.keeps.size)]
      exact I.keeps.block j hj hnb
    · by_cases e : b = H0.next + x.idx
      · subst e
        rw [Eta.ins_same] at h2; injection h2 with h2; subst h2
        exact ⟨by omega, .inl (by rw [hy]; exact I.keeps.size)⟩
      · rw [Eta.ins_ne _ _ e] at h2
        exact I.keeps.fresh b z h1 h2
  · intro b o z hb hz
    exact I.old b o z hb (oldη hb.1 hz)

/-- The memory that a loud operation meets stands in the world. -/
theorem inv_before (S : Setting call P nt ops H0 env0 steps σ) (I : Inv call P nt ops H0 env0 steps σ η0 w0 T c Hc η a w) {k : Nat} (hk : k ≤ steps.length) (hc : c = cnt steps k)
    (hin : ∀ k' x' co, k' < k → steps[k']? = some x' → cnt steps k' = cnt steps k → allocAt P ops steps σ k' co → T x'.idx) : HRel η (putAll H0.next (σ k).grp Hc) w := by
  refine takeAll (n0 := w0.heap.size) I.rel (σ k).grp ?_ ?_
  · intro i co h
    obtain ⟨k', x', h1, h2, h3, h4, h5⟩ := S.grp_alloc k hk i co h
    rw [← h3]
    exact I.pend k' x' co h2 (hin k' x' co h1 h2 h4 h5) (by omega) h5
  · intro i co j co' y y' h h' hy hy' e
    obtain ⟨k1, x1, g1, g2, g3, g4, g5⟩ := S.grp_alloc k hk i co h
    obtain ⟨k2, x2, f1, f2, f3, f4, f5⟩ := S.grp_alloc k hk j co' h'
    rw [← g3] at hy ⊢
    rw [← f3] at hy' ⊢
    exact I.pdis k1 x1 co k2 x2 co' y y' g2 (hin k1 x1 co g1 g2 g4 g5) (by omega) g5 f2 (hin k2 x2 co' f1 f2 f4 f5) (by omega) f5 hy hy' e

/-- A loud step. -/
theorem inv_loud (S : Setting call P nt ops H0 env0 steps σ) (hcall : CallOK P call) (I : Inv call P nt ops H0 env0 steps σ η0 w0 T c Hc η a w) {k : Nat} {x : PStep} (hx : steps[k]? = some x) (hH0 : HRel η0 H0 w0)
    (hr : ∀ e ∈ x.op.after.toList, Region.binds .any e = true → T e.on) (hl : x.loud = true) (hc : c = cnt steps k)
    (hin : ∀ k' x' co, k' < k → steps[k']? = some x' → cnt steps k' = cnt steps k → allocAt P ops steps σ k' co → T x'.idx)
    (hkind : kindOf P x.op.op = .loud)
    {H' : Heap} {tl : List Heap} (ehs : (σ (k + 1)).hs = H' :: tl) {v : CV} {u : Value} {η' : Eta} {w' : World} (hp : putC nt (σ k).env x.op.dst v = some (σ (k + 1)).env) (hv : v.val η' = some u)
    (hm : Moved η (putAll H0.next (σ k).grp Hc) w η' H' w') :
    Inv call P nt ops H0 env0 steps σ η0 w0 (fun j => T j ∨ j = x.idx) (c + 1) H' η' (a.put x.op.dst u) w' := by
  have hlt := (List.getElem?_eq_some_iff.1 hx).1
  have hidx : x.idx < ops.toList.length := (List.getElem?_eq_some_iff.1 (S.plan.mem k x hx).1).1
  have hbef := S.inv_before I (by omega) hc hin
  obtain ⟨t1, t2, t3⟩ := S.tmps_put I hx hm.keeps.le hp hv
  have hseq := seq_at hx hl
  have hcnt : cnt steps (k + 1) = c + 1 := by rw [cnt_succ hx, hl, hc]; simp
  have hgn := (S.gat hcall I.hc).1
  have hpn : (putAll H0.next (σ k).grp Hc).next = Hc.next := putAll_next ..
  -- a block that waits for later
  have later : ∀ {k' x' co}, steps[k']? = some x' → (T x'.idx ∨ x'.idx = x.idx) → c + 1 ≤ cnt steps k' → allocAt P ops steps σ k' co → T x'.idx := by
    intro k' x' co hx' ht hc' ha
    rcases ht with ht | ht
    · exact ht
    · have := S.plan.inj k' k x' x hx' hx ht
      subst this; omega
  have hlt' : ∀ {k' : Nat} {x' : PStep}, steps[k']? = some x' → x'.idx < ops.toList.length := fun h => (List.getElem?_eq_some_iff.1 (S.plan.mem _ _ h).1).1
  have apart : ∀ {k' x' co y}, steps[k']? = some x' → T x'.idx → c + 1 ≤ cnt steps k' → allocAt P ops steps σ k' co → η (H0.next + x'.idx) = some y →
      (putAll H0.next (σ k).grp Hc).get (H0.next + x'.idx) = none ∧ ∀ b o z, (putAll H0.next (σ k).grp Hc).get b = some o → η b = some z → z.blk ≠ y.blk := by
    intro k' x' co y hx' ht hc' ha hy
    obtain ⟨h0, y', hy', _, _, _, hd⟩ := I.pend k' x' co hx' ht (by omega) ha
    rw [hy] at hy'; injection hy' with hy'; subst hy'
    have notgrp : ∀ j co', (j, co') ∈ (σ k).grp → j ≠ x'.idx := by
      intro j co' hj e
      obtain ⟨k2, x2, f1, f2, f3, f4, f5⟩ := S.grp_alloc k (by omega) j co' hj
      have := S.plan.inj k2 k' x2 x' f2 hx' (f3.trans e)
      subst this; omega
    constructor
    · cases e : (putAll H0.next (σ k).grp Hc).get (H0.next + x'.idx) with
      | none => rfl
      | some o =>
        rcases putAll_get _ _ _ _ _ e with h | ⟨j, hj, ej⟩
        · rw [h0] at h; cases h
        · exact absurd (by omega) (notgrp j o hj)
    · intro b o z hb hz e
      rcases putAll_get _ _ _ _ _ hb with h | ⟨j, hj, ej⟩
      · exact hd b o z h hz (fun eb => by rw [eb, h0] at h; cases h) e
      · obtain ⟨k2, x2, f1, f2, f3, f4, f5⟩ := S.grp_alloc k (by omega) j o hj
        subst ej
        rw [← f3] at hz
        have := I.pdis k2 x2 o k' x' co z y f2 (hin k2 x2 o f1 f2 f4 f5) (by omega) f5 hx' ht (by omega) ha hz hy e
        exact notgrp j o hj (f3.symm.trans this)
  have hold : ∀ b o z, ((putAll H0.next (σ k).grp Hc).get b = some o ∧ o.isLook = false) → η b = some z → (∃ o0 x0 b0, (H0.get b0 = some o0 ∧ o0.isLook = false) ∧ η0 b0 = some x0 ∧ x0.blk = z.blk) ∨ w0.heap.size ≤ z.blk := by
    intro b o z hb hz
    rcases putAll_get _ _ _ _ _ hb.1 with h | ⟨j, hj, ej⟩
    · rcases I.old b o z ⟨h, hb.2⟩ hz with h | ⟨b0, o0, x0, h1, h2, h3⟩
      · exact .inr h
      · exact .inl ⟨o0, x0, b0, h1, h2, h3⟩
    · obtain ⟨k2, x2, f1, f2, f3, f4, f5⟩ := S.grp_alloc k (by omega) j o hj
      subst ej
      rw [← f3] at hz
      obtain ⟨_, y, hy, _, _, hn0, _⟩ := I.pend k2 x2 o f2 (hin k2 x2 o f1 f2 f4 f5) (by omega) f5
      rw [hz] at hy; injection hy with hy; subst hy
      exact .inr hn0
  refine ⟨S.closed_more I.closed hx hr, ?_, ?_, ?_, ?_, t1, t2, t3, hm.rel, ?_, ?_, ?_, ?_, ?_⟩
  · rintro i (h | rfl)
    · exact I.lt i h
    · exact hidx
  · intro q l hq
    constructor
    · rintro (h | rfl)
      · have := (I.louds q l hq).1 h; omega
      · obtain ⟨k', x', h1, h2, h3, h4⟩ := seqOf_mem hq
        have := S.plan.inj k' k x' x h1 hx h3
        subst this
        have : cnt steps k' = q := h4
        omega
    · intro h
      by_cases e : q = c
      · subst e
        rw [hc, hseq] at hq
        injection hq with hq; exact .inr hq.symm
      · exact .inl ((I.louds q l hq).2 (by omega))
  · have := (List.getElem?_eq_some_iff.1 hseq).1; omega
  · have := (S.at_head (k := k + 1) (by omega) ehs).1
    rw [hcnt] at this; exact this
  · intro k' x' co hx' ht hc' ha
    have ht' := later hx' ht hc' ha
    obtain ⟨h0, y, hy, ry, hf, hn0, hd⟩ := I.pend k' x' co hx' ht' (by omega) ha
    obtain ⟨ap1, ap2⟩ := apart hx' ht' hc' ha hy
    have hi := hlt' hx'
    refine ⟨?_, y, hm.keeps.le _ _ hy, ry.mono hm.keeps.le (hm.keeps.block _ ry.lt (fun b o z hb hz => ap2 b o z hb.1 hz)), hf, hn0, ?_⟩
    · cases e : H'.get (H0.next + x'.idx) with
      | none => rfl
      | some o =>
        rcases hm.grows.2 _ o e with ⟨o1, h1, _⟩ | h1
        · rw [ap1] at h1; cases h1
        · rw [hpn] at h1; omega
    · intro b' o' z hb' hz hne e
      rcases hm.grows.2 b' o' hb' with ⟨o1, h1, _⟩ | h1
      · obtain ⟨z1, hz1, _⟩ := hbef.obj b' o1 h1
        have := hm.keeps.le b' z1 hz1
        rw [hz] at this; injection this with this; subst this
        exact ap2 b' o1 z h1 hz1 e
      · have hnone : η b' = none := by
          cases e' : η b' with
          | none => rfl
          | some q => have := hbef.dom b' q e'; omega
        rcases (hm.keeps.fresh b' z hnone hz).2 with h2 | ⟨b0, o0, x0, g1, g2, g3⟩
        · have := ry.lt; omega
        · exact ap2 b0 o0 x0 g1.1 g2 (g3.trans e)
  · intro k1 x1 co1 k2 x2 co2 y y' h1 ht1 hc1 ha1 h2 ht2 hc2 ha2 hy hy' e
    have g1 := later h1 ht1 hc1 ha1
    have g2 := later h2 ht2 hc2 ha2
    obtain ⟨_, z1, hz1, _⟩ := I.pend k1 x1 co1 h1 g1 (by omega) ha1
    obtain ⟨_, z2, hz2, _⟩ := I.pend k2 x2 co2 h2 g2 (by omega) ha2
    have e1 := hm.keeps.le _ _ hz1
    have e2 := hm.keeps.le _ _ hz2
    rw [hy] at e1; injection e1 with e1; subst e1
    rw [hy'] at e2; injection e2 with e2; subst e2
    exact I.pdis k1 x1 co1 k2 x2 co2 y y' h1 g1 (by omega) ha1 h2 g2 (by omega) ha2 hz1 hz2 e
  · intro i hi hno
    cases e : η' (H0.next + i) with
    | none => rfl
    | some z =>
      have := (hm.keeps.fresh _ z (I.free i hi fun h => hno (.inl h)) e).1
      rw [hpn] at this; omega
  · exact keeps_trans hH0 I.keeps hm.keeps (by rw [hpn]; omega) hold
  · intro b o z hb hz
    rcases hm.grows.2 b o hb.1 with ⟨o1, h1, h1'⟩ | h1
    · obtain ⟨z1, hz1, _⟩ := hbef.obj b o1 h1
      have := hm.keeps.le b z1 hz1
      rw [hz] at this; injection this with this; subst this
      rcases hold b o1 z ⟨h1, h1'.trans hb.2⟩ hz1 with ⟨o0, x0, b0, g1, g2, g3⟩ | h
      · exact .inr ⟨b0, o0, x0, g1, g2, g3⟩
      · exact .inl h
    · have hnone : η b = none := by
        cases e' : η b with
        | none => rfl
        | some q => have := hbef.dom b q e'; omega
      rcases (hm.keeps.fresh b z hnone hz).2 with h2 | ⟨b1, o1, x1, g1, g2, g3⟩
      · exact .inl (Nat.le_trans I.keeps.size h2)
      · rcases hold b1 o1 x1 g1 g2 with ⟨o0, x0, b0, f1, f2, f3⟩ | h
        · exact .inr ⟨b0, o0, x0, f1, f2, f3.trans g3⟩
        · exact .inl (by omega)
end Setting
end Go.K

namespace Go.K
set_option linter.unusedSimpArgs false
set_option linter.unusedVariables false

theorem sameAt_spec {f : Heap → Option CV} {v : CV} : ∀ {n : Nat} {hs : List Heap}, sameAt f v n hs = true → ∀ j, j < n → ∃ H, hs[j]? = some H ∧ f H = some v
  | 0, hs, h, j, hj => by omega
  | n + 1, [], h, j, hj => by simp [sameAt] at h
  | n + 1, H :: hs, h, j, hj => by
    simp only [sameAt, Bool.and_eq_true] at h
    cases j with
    | zero =>
      refine ⟨H, rfl, ?_⟩
      have h1 := h.1
      split at h1
      · rename_i v' hv'; rw [hv', cbeq_eq _ _ _ h1]
      · cases h1
    | succ j =>
      obtain ⟨H1, h1, h2⟩ := sameAt_spec h.2 j (by omega)
      exact ⟨H1, by simpa using h1, h2⟩

namespace Setting
variable {call : CallFn} {P : Program} {nt : Nat} {ops : Array Oper} {H0 : Heap} {env0 : Env} {steps : List PStep} {σ : Nat → DS}
variable {η0 : Eta} {w0 : World} {T : Nat → Prop} {c : Nat} {Hc : Heap} {η : Eta} {a : Act} {w : World}

/-- What a loud operation needs of the blocks made ahead of it: they are there when it is ready. -/
theorem made_ahead (S : Setting call P nt ops H0 env0 steps σ) (hT : Closed ops.toList T) {k : Nat} {x : PStep} (hx : steps[k]? = some x) (hl : x.loud = true)
    (hr : ∀ e ∈ x.op.after.toList, Region.binds .any e = true → T e.on) : ∀ k' x' co, k' < k → steps[k']? = some x' → cnt steps k' = cnt steps k → allocAt P ops steps σ k' co → T x'.idx := by
  intro k' x' co hlt hx' hc ha
  obtain ⟨x2, f, g1, g2, g3, g4⟩ := ha
  rw [hx'] at g1; injection g1 with g1; subst g1
  have hnl : x'.loud = false := by
    cases h : x'.loud with
    | false => rfl
    | true => rw [(S.loud_eq hx').1 h] at g3; cases g3
  have hchk := S.plan.chk k' x' hx'
  unfold chkStep at hchk
  rw [hnl] at hchk
  simp only [Bool.and_eq_true] at hchk
  have h1 := hchk.1
  have hs : (seqOf steps)[(seqOf (steps.take k')).length]? = some x.idx := by
    have := seq_at hx hl
    unfold cnt at hc this
    rw [hc]; exact this
  rw [hs] at h1
  exact dep_sound hT x.idx x'.idx x.op (S.plan.mem k x hx).1 hr h1

theorem step_any (S : Setting call P nt ops H0 env0 steps σ) (hcall : CallOK P call) (hH0 : HRel η0 H0 w0) (I : Inv call P nt ops H0 env0 steps σ η0 w0 T c Hc η a w) {k : Nat} {x : PStep} (hx : steps[k]? = some x) (hno : ¬ T x.idx)
    (hr : ∀ e ∈ x.op.after.toList, Region.binds .any e = true → T e.on) {Q : Exit → Act → World → Prop} {K : Act → World → Prop}
    (hK : ∀ c' Hc' η' a' w', Inv call P nt ops H0 env0 steps σ η0 w0 (fun j => T j ∨ j = x.idx) c' Hc' η' a' w' → K a' w') : wpOp P ops Q x.idx K a w := by
  have hlt := (List.getElem?_eq_some_iff.1 hx).1
  have hxo := (S.plan.mem k x hx).1
  have hop : ops[x.idx]? = some x.op := by rw [← Array.getElem?_toList]; exact hxo
  have hle := S.loud_eq hx
  obtain ⟨st1, st2⟩ := S.stand I hx hno hr
  have hρ := S.evR_sound I hx hno hr
  unfold wpOp
  rw [hop]
  simp only
  have notl : kindOf P x.op.op ≠ .loud → x.loud = false := by
    intro h
    cases hb : x.loud with
    | false => rfl
    | true => exact absurd (hle.1 hb) h
  cases S.step k x hx with
  | skip H hs eh wf p l =>
    rw [if_neg (by rw [S.wanted_sound I hx hno hr wf]; simp)]
    rcases l with ⟨l1, l2, l3⟩ | ⟨l1, l2, l3⟩
    · have hc := st1 l1
      have hHc : Hc = H := by
        have := (S.at_head (Nat.le_of_lt hlt) eh).1
        rw [← hc, I.hc] at this; injection this
      subst hHc
      have hin := S.made_ahead I.closed hx l1 hr
      exact hK _ _ _ _ _ (S.inv_loud hcall I hx hH0 hr l1 hc hin (hle.1 l1) l2 p rfl (Moved.refl (S.inv_before I (Nat.le_of_lt hlt) hc hin)))
    · refine hK _ _ _ _ _ (S.inv_quiet I hx hr l1 ?_ p rfl)
      rintro co ⟨x2, f, g1, g2, g3, g4⟩
      rw [hx] at g1; injection g1 with g1; subst g1
      rw [wf] at g2; cases g2
  | quiet H hs v eh wt kd q same p e1 e2 =>
    rw [if_pos (S.wanted_sound I hx hno hr wt)]
    refine .inl ?_
    have hl := notl (by rw [kd]; simp)
    obtain ⟨s1, s2⟩ := st2 hl
    obtain ⟨a1, a2, a3⟩ := S.at_head (Nat.le_of_lt hlt) eh
    have hq : quietC P x.op.op (evR x.reads (σ k).env) Hc = some v := by
      by_cases e : c = cnt steps k
      · have : Hc = H := by rw [← e, I.hc] at a1; injection a1
        rw [this]; exact q
      · obtain ⟨G, g1, g2⟩ := sameAt_spec same (cnt steps k - 1 - c) (by omega)
        have := a3 c (by omega)
        rw [I.hc, g1] at this
        injection this with this
        rw [this]; exact g2
    obtain ⟨u, hu, hrun⟩ := quiet_sound I.rel hρ x.op hq
    unfold Oper.wp
    rw [hrun, Oper.upon_value]
    refine hK _ _ _ _ _ (S.inv_quiet I hx hr hl ?_ p hu)
    rintro co ⟨x2, f, g1, g2, g3, g4⟩
    rw [hx] at g1; injection g1 with g1; subst g1
    rw [kd] at g3; cases g3
  | alloc H hs co f eh wt kd q p e1 e2 =>
    rw [if_pos (S.wanted_sound I hx hno hr wt)]
    refine .inl ?_
    have hl := notl (by rw [kd]; simp)
    have hidx : x.idx < ops.toList.length := (List.getElem?_eq_some_iff.1 hxo).1
    obtain ⟨obj, u, y, hrun, hy, hv, hor, _⟩ := alloc_sound I.rel hρ x.op (I.free x.idx hidx hno) q
    unfold Oper.wp
    rw [hrun, Oper.upon_value]
    exact hK _ _ _ _ _ (S.inv_alloc hcall I hx hno hr hl q p hy hv hor)
  | loud H hs v H' eh wt kd q p e1 e2 =>
    rw [if_pos (S.wanted_sound I hx hno hr wt)]
    refine .inl ?_
    have hl := hle.2 kd
    have hc := st1 hl
    have hHc : Hc = H := by
      have := (S.at_head (Nat.le_of_lt hlt) eh).1
      rw [← hc, I.hc] at this; injection this
    subst hHc
    have hin := S.made_ahead I.closed hx hl hr
    refine loudStep_sound hcall hρ (S.inv_before I (Nat.le_of_lt hlt) hc hin) q ?_
    intro η' u w' hv hm
    exact hK _ _ _ _ _ (S.inv_loud hcall I hx hH0 hr hl hc hin kd e1 p hv hm)

/-- When all is done. -/
theorem inv_end (S : Setting call P nt ops H0 env0 steps σ) (hcall : CallOK P call) (hH0 : HRel η0 H0 w0) (I : Inv call P nt ops H0 env0 steps σ η0 w0 T c Hc η a w) (hall : ∀ i, i < ops.toList.length → T i)
    {HF : Heap} (hF : (σ steps.length).heap H0.next = some HF) : ARel η nt (σ steps.length).env a ∧ Moved η0 H0 w0 η HF w := by
  have hcF : c = (seqOf steps).length := by
    rcases Nat.lt_or_ge c (seqOf steps).length with h | h
    · exfalso
      have hs : (seqOf steps)[c]? = some (seqOf steps)[c] := List.getElem?_eq_getElem h
      obtain ⟨k, x, h1, h2, h3, h4⟩ := seqOf_mem hs
      have := (I.louds c _ hs).1 (by rw [← h3]; exact hall _ (List.getElem?_eq_some_iff.1 (S.plan.mem k x h1).1).1)
      omega
    · exact Nat.le_antisymm I.cle h
  have hcnt : cnt steps steps.length = c := by unfold cnt; rw [List.take_length]; exact hcF.symm
  unfold DS.heap at hF
  split at hF
  · cases hF
  · rename_i H hs eh
    injection hF with hF; subst hF
    have hHc : Hc = H := by
      have := (S.at_head (Nat.le_refl _) eh).1
      rw [hcnt, I.hc] at this; injection this
    subst hHc
    have hidx : ∀ {k' : Nat} {x' : PStep}, steps[k']? = some x' → x'.idx < ops.toList.length := fun h => (List.getElem?_eq_some_iff.1 (S.plan.mem _ _ h).1).1
    have hrel := S.inv_before I (Nat.le_refl _) hcnt.symm (fun k' x' co _ hx' _ _ => hall _ (hidx hx'))
    refine ⟨⟨I.defers, I.size, fun t v ht => ?_⟩, hrel, I.keeps, ?_⟩
    · refine I.tmps t v ?_
      unfold ES
      by_cases h : ∃ (i : Nat) (o : Oper), ops.toList[i]? = some o ∧ o.dst = some t
      · obtain ⟨i, o, h1, h2⟩ := h
        rw [if_pos ⟨i, o, h1, h2, hall i (List.getElem?_eq_some_iff.1 h1).1⟩]; exact ht
      · rw [if_neg (fun ⟨i, o, h1, h2, _⟩ => h ⟨i, o, h1, h2⟩), ← S.unwritten h (Nat.le_refl _)]; exact ht
    · have hg := S.gat hcall I.hc
      refine ⟨by rw [putAll_next]; omega, fun b o hb => ?_⟩
      rcases putAll_get _ _ _ _ _ hb with h | ⟨i, _, e⟩
      · exact hg.2 b o h
      · exact .inr (by omega)

theorem inv_start (S : Setting call P nt ops H0 env0 steps σ) (hH0 : HRel η0 H0 w0) (ha : ARel η0 nt env0 a) : Inv call P nt ops H0 env0 steps σ η0 w0 (fun _ => False) 0 (H0.skip ops.toList.length) η0 a w0 := by
  refine ⟨fun _ _ _ h => h.elim, fun _ h => h.elim, fun q l _ => ⟨fun h => h.elim, fun h => by omega⟩, Nat.zero_le _, ?_, ha.defers, ha.size, fun t v ht => ?_, hH0.skip _, fun _ _ _ _ h => h.elim, fun _ _ _ _ _ _ _ _ _ h => h.elim, ?_, Keeps.refl .., ?_⟩
  · rw [S.at_eq (k := 0) (Nat.zero_le _) (Nat.zero_le _), S.zero]; rfl
  · unfold ES at ht
    rw [if_neg (fun ⟨_, _, _, _, h⟩ => h)] at ht
    exact ha.get t v ht
  · intro i _ _
    cases e : η0 (H0.next + i) with
    | none => rfl
    | some y => have := hH0.dom _ _ e; omega
  · intro b o x hb hx
    exact .inr ⟨b, o, x, hb, hx, rfl⟩
end Setting

/- how many operations are left -/
def unl : List Bool → Nat
  | [] => 0
  | true :: l => unl l
  | false :: l => unl l + 1
theorem unl_set : ∀ {l : List Bool} {i : Nat}, l[i]? = some false → unl (l.set i true) + 1 = unl l
  | [], i, h => by simp at h
  | b :: l, 0, h => by simp at h; subst h; simp [unl]
  | b :: l, i + 1, h => by
    have := unl_set (l := l) (i := i) (by simpa using h)
    cases b <;> simp [unl] <;> omega
theorem unl_zero : ∀ {l : List Bool}, unl l = 0 → ∀ (i : Nat) (b : Bool), l[i]? = some b → b = true
  | [], h, i, b, hi => by simp at hi
  | true :: l, h, 0, b, hi => by simp at hi; exact hi
  | true :: l, h, i + 1, b, hi => unl_zero (l := l) (by simpa [unl] using h) i b (by simpa using hi)
  | false :: l, h, i, b, hi => by simp [unl] at h
theorem unl_replicate : ∀ n, unl (List.replicate n false) = n
  | 0 => rfl
  | n + 1 => by simp [List.replicate_succ, unl, unl_replicate n]

theorem mem_ready {ops : Array Oper} {listed : Array Bool} {i : Nat} : i ∈ Region.ready .any ops listed ↔ i < ops.size ∧ listed.getD i true = false ∧ ∃ o, ops[i]? = some o ∧ ∀ e ∈ o.after.toList, Region.binds .any e = true → listed.getD e.on false = true := by
  unfold Region.ready
  simp only [List.mem_filter, List.mem_range, Bool.and_eq_true, Bool.not_eq_true']
  constructor
  · rintro ⟨h1, h2, h3⟩
    refine ⟨h1, h2, ?_⟩
    cases ho : ops[i]? with
    | none => rw [ho] at h3; simp at h3
    | some o =>
      rw [ho] at h3
      simp only [Option.map_some, Option.getD_some] at h3
      refine ⟨o, rfl, fun e he hb => ?_⟩
      rw [← Array.all_toList] at h3
      have := (List.all_eq_true.1 h3) e he
      simpa [hb] using this
  · rintro ⟨h1, h2, o, ho, h3⟩
    refine ⟨h1, h2, ?_⟩
    rw [ho]
    simp only [Option.map_some, Option.getD_some]
    rw [← Array.all_toList, List.all_eq_true]
    intro e he
    cases hb : Region.binds .any e with
    | true => simp [h3 e he hb]
    | false => simp

theorem any_sound {call : CallFn} {P : Program} {nt : Nat} {ops : Array Oper} {H0 : Heap} {env0 : Env} {steps : List PStep} {σ : Nat → DS} (S : Setting call P nt ops H0 env0 steps σ) (hcall : CallOK P call)
    {η0 : Eta} {w0 : World} (hH0 : HRel η0 H0 w0) {HF : Heap} (hF : (σ steps.length).heap H0.next = some HF) {Q : Exit → Act → World → Prop}
    (hQ : ∀ η' a' w', ARel η' nt (σ steps.length).env a' → Moved η0 H0 w0 η' HF w' → Q .normal a' w') :
    ∀ (fuel : Nat) (listed : Array Bool) (c : Nat) (Hc : Heap) (η : Eta) (a : Act) (w : World), listed.size = ops.size → unl listed.toList = fuel →
      Setting.Inv call P nt ops H0 env0 steps σ η0 w0 (fun i => listed.getD i false = true) c Hc η a w → wpAny P .any ops Q fuel listed a w := by
  have lenEq : ops.toList.length = ops.size := Array.length_toList
  -- if none is ready, all are done
  have done : ∀ (listed : Array Bool), listed.size = ops.size → Region.ready .any ops listed = [] → ∀ i, i < ops.toList.length → listed.getD i false = true := by
    intro listed hsz hnil i
    induction i using Nat.strongRecOn with
    | _ i ih =>
      intro hi
      cases hv : listed.getD i false with
      | true => rfl
      | false =>
        exfalso
        have hi' : i < ops.size := by omega
        have hget : listed.getD i true = false := by
          have h1 : i < listed.size := by omega
          rw [Array.getD_eq_getD_getElem?, Array.getElem?_eq_getElem h1] at hv ⊢
          simpa using hv
        have ho : ops.toList[i]? = some ops.toList[i] := List.getElem?_eq_getElem hi
        have : i ∈ Region.ready .any ops listed := mem_ready.2 ⟨hi', hget, _, by rw [← Array.getElem?_toList]; exact ho, fun e he hb => by
          have hlt := S.plan.edges i _ ho e he hb
          exact ih e.on hlt (by omega)⟩
        rw [hnil] at this
        cases this
  have fin : ∀ (listed : Array Bool) c Hc η a w, listed.size = ops.size → Setting.Inv call P nt ops H0 env0 steps σ η0 w0 (fun i => listed.getD i false = true) c Hc η a w → Region.ready .any ops listed = [] → Q .normal a w := by
    intro listed c Hc η a w hsz I hnil
    obtain ⟨h1, h2⟩ := S.inv_end hcall hH0 I (done listed hsz hnil) hF
    exact hQ η a w h1 h2
  intro fuel
  induction fuel with
  | zero =>
    intro listed c Hc η a w hsz hun I
    have hnil : Region.ready .any ops listed = [] := by
      apply List.eq_nil_iff_forall_not_mem.2
      intro i hi
      obtain ⟨h1, h2, _⟩ := mem_ready.1 hi
      have h3 : i < listed.size := by omega
      have := unl_zero hun i listed[i] (by rw [Array.getElem?_toList]; exact Array.getElem?_eq_getElem h3)
      rw [Array.getD_eq_getD_getElem?, Array.getElem?_eq_getElem h3] at h2
      simp [this] at h2
    exact ⟨hnil, fin listed c Hc η a w hsz I hnil⟩
  | succ fuel ih =>
    intro listed c Hc η a w hsz hun I
    refine ⟨fin listed c Hc η a w hsz I, fun i hi => ?_⟩
    obtain ⟨h1, h2, o, ho, hr⟩ := mem_ready.1 hi
    obtain ⟨k, x, hx, rfl⟩ := S.plan.all i (by omega)
    have hxo := (S.plan.mem k x hx).1
    rw [Array.getElem?_toList, ho] at hxo
    injection hxo with hxo; subst hxo
    have hlt : x.idx < listed.size := by omega
    have hfalse : listed[x.idx] = false := by
      rw [Array.getD_eq_getD_getElem?, Array.getElem?_eq_getElem hlt] at h2
      simpa using h2
    have hno : ¬ listed.getD x.idx false = true := by
      rw [Array.getD_eq_getD_getElem?, Array.getElem?_eq_getElem hlt]; simp [hfalse]
    refine S.step_any hcall hH0 I hx hno hr ?_
    intro c' Hc' η' a' w' I'
    refine ih (listed.setIfInBounds x.idx true) c' Hc' η' a' w' (by simp [hsz]) ?_ ?_
    · have := unl_set (l := listed.toList) (i := x.idx) (by rw [Array.getElem?_toList, Array.getElem?_eq_getElem hlt, hfalse])
      rw [Array.toList_setIfInBounds]; omega
    · have : (fun i => (listed.setIfInBounds x.idx true).getD i false = true) = (fun j => listed.getD j false = true ∨ j = x.idx) := by
        funext j
        apply propext
        simp only [Array.getD_eq_getD_getElem?, Array.getElem?_setIfInBounds]
        by_cases e : x.idx = j
        · subst e; simp [hlt]
        · have : ¬ j = x.idx := fun h => e h.symm
          simp [e, this]
      rw [this]; exact I'

theorem drawn_sound {call : CallFn} {P : Program} {nt : Nat} {ops : Array Oper} {H H' : Heap} {env env' : Env} (hcall : CallOK P call) (hm : P.follows .mixedOrders = true) {η : Eta} {a : Act} {w : World} {id : Nat}
    (h : drawC call P nt ops env H = some (env', H')) (ha : ARel η nt env a) (hH : HRel η H w) {Q : Exit → Act → World → Prop} (hQ : ∀ η' a' w', ARel η' nt env' a' → Moved η H w η' H' w' → Q .normal a' w') :
    (Code.region id ops true).wp P Q a w := by
  unfold drawC at h
  split at h
  · rename_i steps hplan
    split at h
    · rename_i s hrun
      split at h
      · rename_i HF hF
        simp only [Option.some.injEq, Prod.mk.injEq] at h
        obtain ⟨rfl, rfl⟩ := h
        obtain ⟨σ, e0, eF, hs⟩ := drawRun_trace hrun
        have S : Setting call P nt ops H env steps σ := ⟨planC_ok hplan, e0, fun k x hx => stepIs (hs k x hx)⟩
        refine wp_region_any hm ?_
        have hH' : HRel η H (drawn w) := rel_drawn hH
        rw [← eF] at hF hQ
        refine any_sound S hcall hH' hF (fun η' a' w' h1 h2 => hQ η' a' w' h1 h2.drawn') ops.size (Array.replicate ops.size false) 0 (H.skip ops.toList.length) η a (drawn w) (by simp) (by simp [unl_replicate]) ?_
        have I := S.inv_start hH' ha
        have : (fun i => (Array.replicate ops.size false).getD i false = true) = (fun _ => False) := by
          funext i
          apply propext
          simp [Array.getD_eq_getD_getElem?, Array.getElem?_replicate]
          split <;> rfl
        rw [this]; exact I
      · cases h
    · cases h
  · cases h
end Go.K
