/- Families of blocks stay in order. Calls of functions on plain values: carried out apart from all memory. Slices in a clean heap: reading their elements, and putting new ones behind them. -/
import Derived.Test.YtmnhkbhdfkebmaaGreatK9

set_option linter.unusedSimpArgs false
set_option linter.unusedVariables false

namespace Go.K
set_option linter.unusedSimpArgs false
set_option linter.unusedVariables false

/-- Which blocks a family may hold. -/
structure HOk (H : Heap) : Prop where
  mem : ∀ f b, b ∈ H.mem f → f ≤ b ∧ b < H.next
  fam : ∀ b o f p, H.get b = some o → o.fam = some (f, p) → f ≤ b ∧ b < H.next ∧ ∀ f', b ∈ H.mem f' → f' = f
def Hok (H H' : Heap) : Prop := HOk H → HOk H'
theorem Hok.refl (H : Heap) : Hok H H := id
theorem Hok.trans {a b c : Heap} (h : Hok a b) (k : Hok b c) : Hok a c := fun x => k (h x)
theorem Hok.put {H : Heap} {b : Nat} {o : CObj} (h : o.fam = none) : Hok H (H.put b o) := by
  intro k
  refine ⟨k.mem, fun c o' f p hc hf => ?_⟩
  rw [Heap.get_put] at hc
  split at hc
  · injection hc with hc; subst hc; rw [h] at hf; cases hf
  · exact k.fam c o' f p hc hf
theorem Hok.skip {H : Heap} (n : Nat) : Hok H (H.skip n) := by
  intro k
  exact ⟨fun f b hb => ⟨(k.mem f b hb).1, Nat.lt_of_lt_of_le (k.mem f b hb).2 (Nat.le_add_right _ _)⟩,
    fun c o' f p hc hf => ⟨(k.fam c o' f p hc hf).1, Nat.lt_of_lt_of_le (k.fam c o' f p hc hf).2.1 (Nat.le_add_right _ _), (k.fam c o' f p hc hf).2.2⟩⟩
theorem Hok.upd {H : Heap} {b pos : Nat} {cs cs' : List CV} {e e' : TypeId} {f : Option (Nat × Nat)} (h : H.get b = some (.cells cs e f)) : Hok H (H.upd b (.cells cs' e' f) pos) := by
  intro k
  cases f with
  | none => exact Hok.put (H := H) rfl k
  | some fp =>
    obtain ⟨f, p⟩ := fp
    have hmem : ∀ g c, c ∈ (H.upd b (.cells cs' e' (some (f, p))) pos).mem g → c ∈ H.mem g := by
      intro g c hc
      have hc : c ∈ (H.trim f b (p + pos)).mem g := hc
      rw [Heap.trim_mem] at hc
      split at hc
      · rename_i e; subst e; exact (List.mem_filter.1 hc).1
      · exact hc
    refine ⟨fun g c hc => by rw [Heap.upd_next]; exact k.mem g c (hmem g c hc), fun c o' g q hc hg => ?_⟩
    have hc2 : ((H.trim f b (p + pos)).put b (.cells cs' e' (some (f, p)))).get c = some o' := hc
    rw [Heap.upd_next]
    rw [Heap.get_put] at hc2
    split at hc2
    · rename_i e
      subst e
      injection hc2 with hc2; subst hc2
      have := k.fam _ _ g q h hg
      exact ⟨this.1, this.2.1, fun f' hf' => this.2.2 f' (hmem f' c hf')⟩
    · rw [Heap.trim_get] at hc2
      split at hc2
      · cases hc2
      · have := k.fam c o' g q hc2 hg
        exact ⟨this.1, this.2.1, fun f' hf' => this.2.2 f' (hmem f' c hf')⟩
theorem Heap.newF_mem' (H : Heap) (o : CObj) (g c : Nat) (h : c ∈ (H.newF o).mem g) : c ∈ H.mem g ∨ (c = H.next ∧ ∃ p, o.fam = some (g, p)) := by
  unfold Heap.newF Heap.mem at h
  split at h
  · exact .inl h
  · rename_i f p e
    simp only [Tr.get_set] at h
    split at h
    · rename_i eg
      subst eg
      simp only [Option.getD_some, List.mem_append, List.mem_singleton] at h
      rcases h with h | h
      · exact .inl h
      · exact .inr ⟨h, p, e⟩
    · exact .inl h
theorem Hok.newF {H : Heap} {o : CObj} (h : ∀ f p, o.fam = some (f, p) → f ≤ H.next) : Hok H (H.newF o) := by
  intro k
  refine ⟨fun f b hb => ?_, fun c o' f p hc hf => ?_⟩
  · rcases Heap.newF_mem' H o f b hb with hb | ⟨rfl, p, e⟩
    · exact ⟨(k.mem f b hb).1, Nat.lt_succ_of_lt (k.mem f b hb).2⟩
    · exact ⟨h f p e, Nat.lt_succ_self _⟩
  · rw [Heap.newF_get] at hc
    split at hc
    · rename_i e
      subst e
      injection hc with hc; subst hc
      refine ⟨h f p hf, Nat.lt_succ_self _, fun f' hf' => ?_⟩
      rcases Heap.newF_mem' H _ f' _ hf' with hb | ⟨_, q, e⟩
      · exact absurd (k.mem f' _ hb).2 (Nat.lt_irrefl _)
      · rw [hf] at e; injection e with e; injection e with e1 e2; exact e1.symm
    · have := k.fam c o' f p hc hf
      refine ⟨this.1, Nat.lt_succ_of_lt this.2.1, fun f' hf' => ?_⟩
      rcases Heap.newF_mem' H _ f' _ hf' with hb | ⟨rfl, _⟩
      · exact this.2.2 f' hb
      · exact absurd this.2.1 (Nat.lt_irrefl _)

section
variable {P : Program} {η : Eta} {H : Heap} {w : World}

theorem writeC_hok {b off : Nat} {vs : List CV} {H' : Heap} (h : writeC H b off vs = some H') : Hok H H' := by
  unfold writeC at h
  split at h
  · rename_i hb
    split at h
    · injection h with h; subst h; exact Hok.upd hb
    · cases h
  · cases h


theorem appendC_hok {t0 t1 : TypeId} {s x : CV} {c : CV} {H' : Heap} (h : appendC P t0 t1 H s x = some (c, H')) : Hok H H' := by
  unfold appendC at h
  split at h
  · cases h
  · split at h
    · split at h
      · simp only [Option.bind_eq_some_iff] at h
        obtain ⟨⟨n, new⟩, _, h⟩ := h
        simp only at h
        split at h
        · cases h
        · split at h
          · split at h
            · simp only [Option.some.injEq, Prod.mk.injEq] at h; rw [← h.2]; exact Hok.refl H
            · split at h
              · simp only [growNew, Option.some.injEq, Prod.mk.injEq] at h; rw [← h.2]; exact Hok.newF (fun f' p' e => by simp only [CObj.fam, Option.some.injEq, Prod.mk.injEq] at e; omega)
              · cases h
          · split at h
            · split at h
              · split at h
                · simp only [Option.some.injEq, Prod.mk.injEq] at h; rw [← h.2]; exact Hok.refl H
                · simp only [Option.map_eq_some_iff, Prod.mk.injEq] at h
                  obtain ⟨H1, hw, _, rfl⟩ := h
                  exact writeC_hok hw
              · split at h
                · split at h
                  · unfold growAt at h
                    split at h
                    · rename_i hb
                      split at h
                      · split at h
                        · simp only [Option.map_eq_some_iff, Prod.mk.injEq] at h
                          obtain ⟨_, _, _, rfl⟩ := h
                          exact fun hk => Hok.newF (fun f' p' e => by simp only [CObj.fam, Option.some.injEq, Prod.mk.injEq] at e; obtain ⟨rfl, _⟩ := e; rw [Heap.upd_next]; have := hk.fam _ _ _ _ hb rfl; omega) (Hok.upd hb hk)
                        · cases h
                      · cases h
                    · cases h
                  · simp only [growNew, Option.map_eq_some_iff, Prod.mk.injEq] at h
                    obtain ⟨_, _, _, rfl⟩ := h
                    exact Hok.newF (fun f' p' e => by simp only [CObj.fam, Option.some.injEq, Prod.mk.injEq] at e; omega)
                · cases h
            · cases h
          · cases h
      · cases h
    · cases h
  · cases h


theorem loudC_hok {op : Op} {ρ : Operand → Option CV} {c : CV} {H' : Heap} (h : loudC P op ρ H = some (c, H')) : Hok H H' := by
  unfold loudC at h
  split at h
  · simp only [Option.bind_eq_some_iff] at h
    obtain ⟨a, _, v, _, h⟩ := h
    unfold storeC at h
    split at h
    · split at h
      · split at h
        · simp only [Option.map_eq_some_iff, Prod.mk.injEq] at h
          obtain ⟨H1, hw, _, rfl⟩ := h
          exact writeC_hok hw
        · cases h
      · cases h
    · cases h
  all_goals try (first
    | (simp only [Option.bind_eq_some_iff] at h
       obtain ⟨m, _, k, _, v, _, h⟩ := h
       unfold updateC at h
       split at h
       · split at h
         · split at h
           · rename_i hb
             split at h
             · split at h
               · simp only [Option.map_eq_some_iff, Prod.mk.injEq] at h
                 obtain ⟨_, _, _, rfl⟩ := h
                 exact Hok.put rfl
               · simp only [Option.some.injEq, Prod.mk.injEq] at h; rw [← h.2]; exact Hok.put rfl
               · cases h
             · cases h
           · cases h
         · cases h
       · cases h))
  · simp only [Option.bind_eq_some_iff] at h
    obtain ⟨x, _, h⟩ := h
    unfold rangeC at h
    split at h
    · simp only [Option.some.injEq, Prod.mk.injEq] at h; rw [← h.2]; exact Hok.newF (fun f' p' e => by simp only [CObj.fam, Option.some.injEq, Prod.mk.injEq, reduceCtorEq] at e; try omega)
    · simp only [Option.some.injEq, Prod.mk.injEq] at h; rw [← h.2]; exact Hok.newF (fun f' p' e => by simp only [CObj.fam, Option.some.injEq, Prod.mk.injEq, reduceCtorEq] at e; try omega)
    · split at h
      · simp only [Option.some.injEq, Prod.mk.injEq] at h; rw [← h.2]; exact Hok.newF (fun f' p' e => by simp only [CObj.fam, Option.some.injEq, Prod.mk.injEq, reduceCtorEq] at e; try omega)
      · cases h
    · cases h
  · simp only [Option.bind_eq_some_iff] at h
    obtain ⟨x, _, h⟩ := h
    unfold nextC at h
    split at h
    · split at h
      · rename_i hb
        split at h
        · simp only [Option.some.injEq, Prod.mk.injEq] at h; rw [← h.2]; exact Hok.put rfl
        · simp only [Option.some.injEq, Prod.mk.injEq] at h; rw [← h.2]; exact Hok.refl H
      · simp only [Option.some.injEq, Prod.mk.injEq] at h; rw [← h.2]; exact Hok.refl H
      · rename_i hb
        split at h
        · split at h
          · cases h
          · split at h
            · simp only [Option.some.injEq, Prod.mk.injEq] at h; rw [← h.2]; exact Hok.refl H
            · split at h
              · simp only [Option.some.injEq, Prod.mk.injEq] at h; rw [← h.2]; exact Hok.put rfl
              · cases h
            · cases h
        · cases h
      · cases h
    · cases h
  · simp only [Option.bind_eq_some_iff, Option.map_eq_some_iff, Prod.mk.injEq] at h
    obtain ⟨_, _, _, _, _, rfl⟩ := h
    exact Hok.refl H
  · simp only [Option.bind_eq_some_iff] at h
    obtain ⟨x, _, h⟩ := h
    unfold toBytesC at h
    split at h
    · split at h
      · split at h
        · simp only [Option.some.injEq, Prod.mk.injEq] at h; rw [← h.2]; exact Hok.newF (fun f' p' e => by simp only [CObj.fam, Option.some.injEq, Prod.mk.injEq, reduceCtorEq] at e; try omega)
        · cases h
      · cases h
    · split at h
      · split at h
        · simp only [Option.some.injEq, Prod.mk.injEq] at h; rw [← h.2]; exact Hok.refl H
        · split at h
          · simp only [Option.some.injEq, Prod.mk.injEq] at h; rw [← h.2]; exact Hok.refl H
          · split at h
            · cases h
            · split at h
              · simp only [Option.bind_eq_some_iff, Option.map_eq_some_iff, Prod.mk.injEq] at h
                obtain ⟨_, _, _, _, _, rfl⟩ := h
                exact Hok.refl H
              · cases h
        · cases h
      · cases h
    · cases h
  · split at h
    · split at h
      · simp only [Option.bind_eq_some_iff] at h
        obtain ⟨_, _, _, _, h⟩ := h
        exact appendC_hok h
      · cases h
    · split at h
      · simp only [Option.bind_eq_some_iff] at h
        obtain ⟨_, _, _, _, h⟩ := h
        unfold copyC at h
        split at h
        · split at h
          · simp only [Option.bind_eq_some_iff] at h
            obtain ⟨⟨_, _⟩, _, h⟩ := h
            simp only at h
            split at h
            · simp only [Option.some.injEq, Prod.mk.injEq] at h; rw [← h.2]; exact Hok.refl H
            · split at h
              · cases h
              · simp only [Option.bind_eq_some_iff, Option.map_eq_some_iff, Prod.mk.injEq] at h
                obtain ⟨_, _, H1, hw, _, rfl⟩ := h
                exact writeC_hok hw
            · cases h
          · cases h
        · cases h
      · cases h
    · split at h
      · simp only [Option.bind_eq_some_iff] at h
        obtain ⟨_, _, h⟩ := h
        unfold clearC at h
        split at h
        · simp only [Option.some.injEq, Prod.mk.injEq] at h; rw [← h.2]; exact Hok.refl H
        · split at h
          · simp only [Option.some.injEq, Prod.mk.injEq] at h; rw [← h.2]; exact Hok.refl H
          · split at h
            · cases h
            · simp only [Option.bind_eq_some_iff, Option.map_eq_some_iff, Prod.mk.injEq] at h
              obtain ⟨_, _, H1, hw, _, rfl⟩ := h
              exact writeC_hok hw
        · cases h
      · cases h
    · split at h
      · simp only [Option.bind_eq_some_iff] at h
        obtain ⟨_, _, _, _, h⟩ := h
        unfold deleteC at h
        split at h
        · split at h
          · split at h
            · rename_i hb
              split at h
              · split at h
                · simp only [Option.some.injEq, Prod.mk.injEq] at h; rw [← h.2]; exact Hok.put rfl
                · simp only [Option.some.injEq, Prod.mk.injEq] at h; rw [← h.2]; exact Hok.refl H
                · cases h
              · cases h
            · cases h
          · cases h
        · cases h
      · cases h
    · cases h
  · cases h


end
def CallHok (call : CallFn) : Prop := ∀ f a H r H', call f a H = some (r, H') → Hok H H'
section
variable {P : Program}

theorem loudStep_hok {call : CallFn} (hc : CallHok call) {op : Op} {ρ : Operand → Option CV} {H H' : Heap} {v : CV} (h : loudStep call P op ρ H = some (v, H')) : Hok H H' := by
  unfold loudStep at h
  split at h
  · simp only [Option.bind_eq_some_iff] at h
    obtain ⟨⟨f, a⟩, _, h⟩ := h
    exact hc _ _ _ _ _ h
  · exact loudC_hok h

theorem opsSeq_hok {call : CallFn} (hcall : CallHok call) {nt : Nat} {ops : Array Oper} : ∀ {os : List Oper} {env env' : Env} {H H' : Heap}, opsSeq call P nt ops os env H = some (env', H') → Hok H H'
  | [], env, env', H, H', h => by simp only [opsSeq, Option.some.injEq, Prod.mk.injEq] at h; rw [← h.2]; exact Hok.refl H
  | o :: os, env, env', H, H', h => by
    unfold opsSeq at h
    split at h
    · cases h
    · split at h
      · exact opsSeq_hok hcall h
      · cases h
    · split at h
      · rename_i v H1 hst
        split at h
        · have h1 : Hok H H1 := by
            unfold stepC at hst
            split at hst
            · simp only [Option.map_eq_some_iff, Prod.mk.injEq] at hst
              obtain ⟨_, _, _, rfl⟩ := hst
              exact Hok.refl H
            · simp only [Option.map_eq_some_iff, Prod.mk.injEq] at hst
              obtain ⟨⟨co, f⟩, hco, _, rfl⟩ := hst
              exact (Hok.skip 1).trans (Hok.put (allocC_fam hco))
            · exact loudStep_hok hcall hst
          exact h1.trans (opsSeq_hok hcall h)
        · cases h
      · cases h

theorem putAll_hok {base : Nat} : ∀ {g : List (Nat × CObj)} {H : Heap}, (∀ x ∈ g, x.2.fam = none) → Hok H (putAll base g H)
  | [], H, _ => Hok.refl H
  | (i, co) :: g, H, h => (putAll_hok (fun x hx => h x (List.mem_cons_of_mem _ hx))).trans (Hok.put (h (i, co) (List.mem_cons_self ..)))

def DS.Ok (H0 : Heap) (s : DS) : Prop := (∀ x ∈ s.grp, x.2.fam = none) ∧ ∀ H hs, s.hs = H :: hs → Hok H0 H

theorem drawStep_hok {call : CallFn} (hcall : CallHok call) {nt : Nat} {ops : Array Oper} {base : Nat} {x : PStep} {H0 : Heap} {s s' : DS} (hs : s.Ok H0) (h : drawStep call P nt ops base x s = some s') : s'.Ok H0 := by
  unfold drawStep at h
  split at h
  · rename_i H hs' _ e
    split at h
    · split at h
      · injection h with h; subst h
        refine ⟨fun x hx => (by cases hx), fun H1 hs1 e1 => ?_⟩
        injection e1 with e1 e2; subst e1
        exact (hs.2 _ _ e).trans (putAll_hok hs.1)
      · injection h with h; subst h
        exact ⟨hs.1, fun H1 hs1 e1 => by injection e1 with e1 e2; subst e1; exact hs.2 _ _ e⟩
    · cases h
  · rename_i H hs' _ e
    split at h
    · split at h
      · split at h
        · split at h
          · injection h with h; subst h
            exact ⟨hs.1, fun H1 hs1 e1 => by injection e1 with e1 e2; subst e1; exact hs.2 _ _ e⟩
          · cases h
        · cases h
      · cases h
    · split at h
      · rename_i co f hco
        split at h
        · injection h with h; subst h
          refine ⟨fun x hx => ?_, fun H1 hs1 e1 => by injection e1 with e1 e2; subst e1; exact hs.2 _ _ e⟩
          rcases List.mem_cons.1 hx with rfl | hx
          · exact allocC_fam hco
          · exact hs.1 x hx
        · cases h
      · cases h
    · split at h
      · rename_i v H1 hl
        split at h
        · injection h with h; subst h
          refine ⟨fun x hx => (by cases hx), fun H2 hs2 e2 => ?_⟩
          injection e2 with e2 e3; subst e2
          exact ((hs.2 _ _ e).trans (putAll_hok hs.1)).trans (loudStep_hok hcall hl)
        · cases h
      · cases h
  · cases h

theorem drawRun_hok {call : CallFn} (hcall : CallHok call) {nt : Nat} {ops : Array Oper} {base : Nat} {H0 : Heap} : ∀ {xs : List PStep} {s s' : DS}, s.Ok H0 → drawRun call P nt ops base xs s = some s' → s'.Ok H0
  | [], s, s', hs, h => by simp only [drawRun, Option.some.injEq] at h; rw [← h]; exact hs
  | x :: xs, s, s', hs, h => by
    unfold drawRun at h
    split at h
    · rename_i s1 h1; exact drawRun_hok hcall (drawStep_hok hcall hs h1) h
    · cases h

theorem drawC_hok {call : CallFn} (hcall : CallHok call) {nt : Nat} {ops : Array Oper} {env env' : Env} {H H' : Heap} (h : drawC call P nt ops env H = some (env', H')) : Hok H H' := by
  unfold drawC at h
  split at h
  · split at h
    · rename_i s hrun
      have h0 : DS.Ok H ⟨env, [H.skip ops.toList.length], []⟩ := ⟨fun x hx => (by cases hx), fun H1 hs1 e1 => by injection e1 with e1 e2; subst e1; exact Hok.skip _⟩
      have h1 := drawRun_hok hcall h0 hrun
      split at h
      · rename_i H2 h2
        injection h with h; injection h with ha hb; subst hb
        unfold DS.heap at h2
        split at h2
        · cases h2
        · rename_i H3 hs3 e3
          injection h2 with h2; subst h2
          exact (h1.2 _ _ e3).trans (putAll_hok h1.1)
      · cases h
    · cases h
  · cases h

def RunHok (r : RunFn) : Prop := ∀ nt c env H e env' H', r nt c env H = some (e, env', H') → Hok H H'

theorem callC_hok {X : CallFn} (hX : CallHok X) {rec : RunFn} (hr : RunHok rec) : CallHok (callC P X rec) := by
  intro f a H r H' h
  unfold callC at h
  split at h
  · rename_i hx; injection h with h; subst h; exact hX _ _ _ _ _ hx
  · unfold enterC at h
    split at h
    · split at h
      · split at h
        · cases h
        · split at h
          · rename_i h1
            simp only [Option.map_eq_some_iff, Prod.mk.injEq] at h
            obtain ⟨_, _, _, rfl⟩ := h
            exact hr _ _ _ _ _ _ _ h1
          · rename_i h1
            simp only [Option.map_eq_some_iff, Prod.mk.injEq] at h
            obtain ⟨_, _, _, rfl⟩ := h
            exact hr _ _ _ _ _ _ _ h1
          · cases h
      · cases h
    · cases h

theorem run_hok {X : CallFn} (hX : CallHok X) : ∀ n, RunHok (run P X n)
  | 0 => fun _ _ _ _ _ _ _ h => by rw [run_zero] at h; cases h
  | n + 1 => by
    have ih := run_hok hX n
    have hc := callC_hok (P := P) hX ih
    intro nt c env H e env' H' h
    rw [run_succ] at h
    cases c with
    | region id ops draw =>
      cases draw with
      | false =>
        simp only [layer] at h
        split at h
        · rename_i h1; simp only [Option.some.injEq, Prod.mk.injEq] at h; obtain ⟨_, _, rfl⟩ := h; exact opsSeq_hok hc h1
        · cases h
      | true =>
        simp only [layer] at h
        split at h
        · rename_i h1; simp only [Option.some.injEq, Prod.mk.injEq] at h; obtain ⟨_, _, rfl⟩ := h; exact drawC_hok hc h1
        · cases h
    | seq a b =>
      simp only [layer] at h
      split at h
      · rename_i h1; exact (ih _ _ _ _ _ _ _ h1).trans (ih _ _ _ _ _ _ _ h)
      · exact ih _ _ _ _ _ _ _ h
    | cond y t f =>
      simp only [layer] at h
      split at h
      · exact ih _ _ _ _ _ _ _ h
      · exact ih _ _ _ _ _ _ _ h
      · cases h
    | block id body =>
      simp only [layer] at h
      split at h
      · rename_i h1
        split at h
        · simp only [Option.some.injEq, Prod.mk.injEq] at h; obtain ⟨_, _, rfl⟩ := h; exact ih _ _ _ _ _ _ _ h1
        · simp only [Option.some.injEq, Prod.mk.injEq] at h; obtain ⟨_, _, rfl⟩ := h; exact ih _ _ _ _ _ _ _ h1
      · exact ih _ _ _ _ _ _ _ h
    | loop body =>
      simp only [layer] at h
      split at h
      · rename_i h1; exact (ih _ _ _ _ _ _ _ h1).trans (ih _ _ _ _ _ _ _ h)
      · exact ih _ _ _ _ _ _ _ h
    | skip => simp only [layer, Option.some.injEq, Prod.mk.injEq] at h; obtain ⟨_, _, rfl⟩ := h; exact Hok.refl H
    | label l => simp only [layer, Option.some.injEq, Prod.mk.injEq] at h; obtain ⟨_, _, rfl⟩ := h; exact Hok.refl H
    | exit id => simp only [layer, Option.some.injEq, Prod.mk.injEq] at h; obtain ⟨_, _, rfl⟩ := h; exact Hok.refl H
    | ret => simp only [layer, Option.some.injEq, Prod.mk.injEq] at h; obtain ⟨_, _, rfl⟩ := h; exact Hok.refl H
    | _ => simp [layer] at h

theorem go_hok {X : CallFn} (hX : CallHok X) : RunHok (go P X) := by
  intro nt c env H e env' H' h
  obtain ⟨n, hn⟩ := go_iff.1 h
  exact run_hok hX n _ _ _ _ _ _ _ hn
theorem calls_hok {X : CallFn} (hX : CallHok X) : CallHok (calls P X) := callC_hok hX (go_hok hX)
end
end Go.K

namespace Go.K
set_option linter.unusedSimpArgs false
set_option linter.unusedVariables false

mutual
/-- No block is told in it. -/
def CV.flat : CV → Bool
  | .bool _ | .int _ _ | .str _ | .nilPtr | .nilSlice | .nilMap | .nilFunc | .nilIface => true
  | .iface _ v => v.flat
  | .agg cs => CV.flats cs
  | .tuple cs => CV.flats cs
  | .func _ a b => CV.flats a && CV.flats b
  | _ => false
def CV.flats : List CV → Bool
  | [] => true
  | c :: cs => c.flat && CV.flats cs
end

mutual
theorem CV.flat_val (η η' : Eta) : ∀ c : CV, c.flat = true → c.val η = c.val η'
  | .bool _, _ => rfl
  | .int _ _, _ => rfl
  | .str _, _ => rfl
  | .nilPtr, _ => rfl
  | .nilSlice, _ => rfl
  | .nilMap, _ => rfl
  | .nilFunc, _ => rfl
  | .nilIface, _ => rfl
  | .iface t v, h => by simp only [CV.flat] at h; simp only [CV.val, CV.flat_val η η' v h]
  | .agg cs, h => by simp only [CV.flat] at h; simp only [CV.val, CV.flats_vals η η' cs h]
  | .tuple cs, h => by simp only [CV.flat] at h; simp only [CV.val, CV.flats_vals η η' cs h]
  | .func f a b, h => by
    simp only [CV.flat, Bool.and_eq_true] at h
    simp only [CV.val, CV.flats_vals η η' a h.1, CV.flats_vals η η' b h.2]
  | .ptr _ _, h => by simp [CV.flat] at h
  | .slice _ _ _ _, h => by simp [CV.flat] at h
  | .map _, h => by simp [CV.flat] at h
theorem CV.flats_vals (η η' : Eta) : ∀ cs : List CV, CV.flats cs = true → CV.vals η cs = CV.vals η' cs
  | [], _ => rfl
  | c :: cs, h => by
    simp only [CV.flats, Bool.and_eq_true] at h
    simp only [CV.vals, CV.flat_val η η' c h.1, CV.flats_vals η η' cs h.2]
end

def noHeap : Heap := ⟨0, .nil, .nil⟩

def plainC (call : CallFn) (fs : List Nat) : CallFn := fun f args H =>
  match fs.contains f && CV.flats args with
  | true => match call f args noHeap with
    | some (r, _) => match r.flat with
      | true => some (r, H)
      | false => none
    | none => none
  | false => none

section
variable {P : Program}

theorem noHeap_rel (w : World) : HRel (fun _ => none) noHeap w :=
  ⟨fun b o h => by simp [noHeap, Heap.get, Tr.get_nil] at h, fun b x h => by simp at h, fun b b' o o' x x' h => by simp [noHeap, Heap.get, Tr.get_nil] at h,
   fun b o f p h => by simp [noHeap, Heap.get, Tr.get_nil] at h, fun b o f p h => by simp [noHeap, Heap.get, Tr.get_nil] at h⟩

theorem Invokes.mono {f : FuncId} {args : Array Value} {w : World} {R R' : Ending → World → Prop} (h : Invokes P f args w R) (hR : ∀ e w', R e w' → R' e w') : Invokes P f args w R' := by
  rcases h with ⟨h1, h2⟩ | ⟨v, w', h1, h2⟩
  · exact .inl ⟨h1, h2.mono hR⟩
  · exact .inr ⟨v, w', h1, hR _ _ h2⟩

theorem Keeps.apart {η' : Eta} {w w' : World} (h : Keeps (fun _ => none) noHeap w η' w') {η : Eta} {H : Heap} (hH : HRel η H w) : HRel η H w' ∧ Keeps η H w η w' := by
  have hk : ∀ k, k < w.heap.size → w'.heap[k]? = w.heap[k]? := fun k hk => h.block k hk (fun b o x hb => by simp [noHeap, Heap.get, Tr.get_nil] at hb)
  refine ⟨⟨fun b o hb => ?_, hH.dom, hH.inj, hH.fam, hH.famlt⟩, ⟨h.os, h.tape, h.output, h.size, fun k hk' _ => hk k hk', η.le_refl, fun b x h1 h2 => by rw [h1] at h2; cases h2⟩⟩
  obtain ⟨x, hx, r⟩ := hH.obj b o hb
  exact ⟨x, hx, r.mono η.le_refl (hk _ r.lt)⟩

theorem plainC_ok {call : CallFn} (hcall : CallOK P call) (fs : List Nat) : CallOK P (plainC call fs) := by
  intro f args H r H' h
  unfold plainC at h
  split at h
  · rename_i hf
    simp only [Bool.and_eq_true] at hf
    split at h
    · rename_i r1 H1 h1
      split at h
      · rename_i hr
        simp only [Option.some.injEq, Prod.mk.injEq] at h
        obtain ⟨rfl, rfl⟩ := h
        refine ⟨Grows.refl _, fun η w vs hH hvs => ?_⟩
        refine ((hcall f args noHeap r1 H1 h1).2 (fun _ => none) w vs (noHeap_rel w) (by rw [← hvs]; exact CV.flats_vals _ _ _ hf.2)).mono ?_
        rintro e w' ⟨η', v, he, hv, _, hk⟩
        obtain ⟨h2, h3⟩ := hk.apart hH
        exact ⟨η, v, he, by rw [← hv]; exact CV.flat_val _ _ _ hr, h2, h3⟩
      · cases h
    · cases h
  · cases h

theorem plainC_hok {call : CallFn} (fs : List Nat) : CallHok (plainC call fs) := by
  intro f args H r H' h
  unfold plainC at h
  split at h
  · split at h
    · split at h
      · simp only [Option.some.injEq, Prod.mk.injEq] at h; rw [← h.2]; exact Hok.refl _
      · cases h
    · cases h
  · cases h

theorem plainC_eq {call : CallFn} {fs : List Nat} {f : Nat} {args : List CV} {r : CV} (H : Heap) (hf : fs.contains f = true) (ha : CV.flats args = true) (hr : r.flat = true)
    (h : (call f args noHeap).map (·.1) = some r) : plainC call fs f args H = some (r, H) := by
  unfold plainC
  rw [hf, ha]
  simp only [Option.map_eq_some_iff] at h
  obtain ⟨⟨r1, H1⟩, h1, rfl⟩ := h
  simp only [Bool.and_self, h1, hr]

/-- One hook behind another. -/
def orC (a b : CallFn) : CallFn := fun f args H => match a f args H with
  | some r => some r
  | none => b f args H
theorem orC_ok {a b : CallFn} (ha : CallOK P a) (hb : CallOK P b) : CallOK P (orC a b) := by
  intro f args H r H' h
  unfold orC at h
  split at h
  · rename_i h1; injection h with h; subst h; exact ha f args H r H' h1
  · exact hb f args H r H' h
theorem orC_hok {a b : CallFn} (ha : CallHok a) (hb : CallHok b) : CallHok (orC a b) := by
  intro f args H r H' h
  unfold orC at h
  split at h
  · rename_i h1; injection h with h; subst h; exact ha f args H r H' h1
  · exact hb f args H r H' h
theorem orC_left {a b : CallFn} {f : Nat} {args : List CV} {H : Heap} {r : CV × Heap} (h : a f args H = some r) : orC a b f args H = some r := by simp [orC, h]
theorem orC_right {a b : CallFn} {f : Nat} {args : List CV} {H : Heap} (h : a f args H = none) : orC a b f args H = b f args H := by simp [orC, h]

theorem calls_hook {X : CallFn} {f : Nat} {args : List CV} {H : Heap} {r : CV × Heap} (h : X f args H = some r) : calls P X f args H = some r := by simp [calls, callC, h]
theorem calls_body {X : CallFn} {f : Nat} {args : List CV} {H : Heap} (h : X f args H = none) : calls P X f args H = enterC P (go P X) f args H := by simp [calls, callC, h]
end
end Go.K

namespace Go.K
set_option linter.unusedSimpArgs false
set_option linter.unusedVariables false

/-- The blocks below a number stay as they are. -/
def Ext (n : Nat) (H H' : Heap) : Prop := H.next ≤ H'.next ∧ ∀ b o, b < n → H.get b = some o → H'.get b = some o
theorem Ext.refl (n : Nat) (H : Heap) : Ext n H H := ⟨Nat.le_refl _, fun _ _ _ h => h⟩
theorem Ext.trans {n : Nat} {a b c : Heap} (h : Ext n a b) (k : Ext n b c) : Ext n a c :=
  ⟨Nat.le_trans h.1 k.1, fun x o hx ho => k.2 x o hx (h.2 x o hx ho)⟩
theorem Ext.le {n m : Nat} {a b : Heap} (h : Ext n a b) (hm : m ≤ n) : Ext m a b := ⟨h.1, fun x o hx => h.2 x o (Nat.lt_of_lt_of_le hx hm)⟩

theorem Heap.put_next (H : Heap) (b : Nat) (o : CObj) : (H.put b o).next = H.next := rfl
theorem Heap.skip_next (H : Heap) (n : Nat) : (H.skip n).next = H.next + n := rfl
theorem Heap.newF_next (H : Heap) (o : CObj) : (H.newF o).next = H.next + 1 := rfl

theorem Ext.put {n : Nat} {H : Heap} {b : Nat} {o : CObj} (h : n ≤ b) : Ext n H (H.put b o) :=
  ⟨Nat.le_refl _, fun x o hx ho => by rw [Heap.get_put, if_neg (by omega)]; exact ho⟩
theorem Ext.skip {n : Nat} {H : Heap} {k : Nat} : Ext n H (H.skip k) := ⟨Nat.le_add_right _ _, fun _ _ _ h => h⟩
theorem Ext.newF {n : Nat} {H : Heap} {o : CObj} (h : n ≤ H.next) : Ext n H (H.newF o) :=
  ⟨Nat.le_succ _, fun x o hx ho => by rw [Heap.newF_get, if_neg (by omega)]; exact ho⟩
theorem Ext.upd {n : Nat} {H : Heap} {b pos : Nat} {cs cs' : List CV} {e e' : TypeId} {f : Option (Nat × Nat)} (hk : HOk H) (h : H.get b = some (.cells cs e f)) (hb : n ≤ b)
    (hf : ∀ g p, f = some (g, p) → n ≤ g) : Ext n H (H.upd b (.cells cs' e' f) pos) := by
  refine ⟨Nat.le_of_eq (Heap.upd_next ..).symm, fun x o hx ho => ?_⟩
  cases f with
  | none => exact (Ext.put hb).2 x o hx ho
  | some fp =>
    obtain ⟨g, p⟩ := fp
    show ((H.trim g b (p + pos)).put b (.cells cs' e' (some (g, p)))).get x = _
    rw [Heap.get_put, if_neg (by omega), Heap.trim_get, if_neg]
    · exact ho
    rintro ⟨hm, _⟩
    have := (hk.mem g x hm).1
    have := hf g p rfl
    omega

/-- The elements of a slice. -/
def Has (H : Heap) (sz e : Nat) (v : CV) (vs : List CV) : Prop :=
  (∀ x ∈ vs, x.cells.length = sz) ∧ ((v = .nilSlice ∧ vs = []) ∨ ∃ b off cap cs fam, v = .slice b off vs.length cap ∧ (∀ s o, cap ≠ .tailE s o) ∧ b < H.next ∧ H.get b = some (.cells cs e fam) ∧
    off + vs.length * sz ≤ cs.length ∧ (cs.drop off).take (vs.length * sz) = vs.flatMap CV.cells)

theorem Has.ext {H H' : Heap} {sz e n : Nat} {v : CV} {vs : List CV} (h : Has H sz e v vs) (hx : Ext n H H') (hn : ∀ b off len cap, v = .slice b off len cap → b < n) : Has H' sz e v vs := by
  refine ⟨h.1, ?_⟩
  rcases h.2 with h | ⟨b, off, cap, cs, fam, hv, h1, h2, h3, h4, h5⟩
  · exact .inl h
  · exact .inr ⟨b, off, cap, cs, fam, hv, h1, Nat.lt_of_lt_of_le h2 hx.1, hx.2 b _ (hn _ _ _ _ hv) h3, h4, h5⟩

theorem flat_length {sz : Nat} : ∀ {vs : List CV}, (∀ x ∈ vs, x.cells.length = sz) → (vs.flatMap CV.cells).length = vs.length * sz
  | [], _ => by simp
  | v :: vs, h => by
    rw [List.flatMap_cons, List.length_append, flat_length (fun x hx => h x (List.mem_cons_of_mem _ hx)), h v (List.mem_cons_self ..), List.length_cons, Nat.succ_mul]
    omega
theorem flat_part {sz : Nat} : ∀ {vs : List CV} {i : Nat} (hi : i < vs.length), (∀ x ∈ vs, x.cells.length = sz) → ((vs.flatMap CV.cells).drop (i * sz)).take sz = vs[i].cells
  | v :: vs, 0, _, h => by
    have := h v (List.mem_cons_self ..)
    simp [List.flatMap_cons, ← this]
  | v :: vs, i + 1, hi, h => by
    have hv := h v (List.mem_cons_self ..)
    rw [List.flatMap_cons, Nat.succ_mul, Nat.add_comm, ← hv, List.drop_append, List.drop_of_length_le (by omega : v.cells.length ≤ v.cells.length + i * v.cells.length)]
    simp only [List.nil_append, Nat.add_sub_cancel_left]
    rw [hv]
    exact flat_part (Nat.lt_of_succ_lt_succ hi) (fun x hx => h x (List.mem_cons_of_mem _ hx))

theorem takeE_of {α : Type} : ∀ {n : Nat} {l : List α}, n ≤ l.length → takeE n l = some (l.take n)
  | 0, l, _ => rfl
  | n + 1, [], h => by simp at h
  | n + 1, x :: xs, h => by simp [takeE, takeE_of (Nat.le_of_succ_le_succ h)]

/-- An element of a slice: where it lies, and what is there. -/
theorem Has.at {P : Program} {H : Heap} {sz e t : Nat} {v : CV} {vs : List CV} (h : Has H sz e v vs) (ht : P.underlying t = some (.slice e)) (hs : szC P e = some sz) {i : Nat} (hi : i < vs.length) :
    ∃ b off cs fam, b < H.next ∧ (∃ o len cap, v = .slice b o len cap) ∧ (∀ k, indexAddrC P t v (.int k (i : Int)) = some (.ptr b off)) ∧
      H.get b = some (.cells cs e fam) ∧ takeE sz (cs.drop off) = some vs[i].cells ∧ ∀ (k : Nat) (c : CV), vs[i].cells[k]? = some c → cs[off + k]? = some c := by
  rcases h.2 with ⟨_, rfl⟩ | ⟨b, off, cap, cs, fam, rfl, h1, h2, h3, h4, h5⟩
  · simp at hi
  · have hle : i * sz + sz ≤ vs.length * sz := by rw [← Nat.succ_mul]; exact Nat.mul_le_mul_right _ hi
    have htake : takeE sz (cs.drop (off + i * sz)) = some vs[i].cells := by
      rw [takeE_of (by rw [List.length_drop]; omega)]
      rw [← flat_part hi h.1, ← h5, List.drop_take, List.drop_drop, List.take_take]
      congr 2
      omega
    refine ⟨b, off + i * sz, cs, fam, h2, ⟨_, _, _, rfl⟩, fun k => ?_, h3, htake, fun k c hc => ?_⟩
    · show indexAddrC P t _ (.int k (Int.ofNat i)) = _
      unfold indexAddrC
      simp only [ht]
      cases cap with
      | tailE s o => exact absurd rfl (h1 s o)
      | exact n => simp only [blt_t hi, hs, Option.map_some]
      | tail s => simp only [blt_t hi, hs, Option.map_some]
    · obtain ⟨h6, _⟩ := takeE_eq htake
      rw [h6, List.getElem?_take] at hc
      split at hc
      · rw [List.getElem?_drop] at hc; exact hc
      · cases hc
theorem Has.len {P : Program} {H : Heap} {sz e t : Nat} {v : CV} {vs : List CV} (h : Has H sz e v vs) (ht : P.underlying t = some (.slice e)) (H' : Heap) : lenC P t H' v = some (.int .i64 vs.length) := by
  rcases h.2 with ⟨rfl, rfl⟩ | ⟨b, off, cap, cs, fam, rfl, h1, h2, h3, h4, h5⟩
  · simp [lenC, ht]
  · simp [lenC, ht]

/-- The elements of a slice that is only read. -/
def Look (H : Heap) (sz : Nat) (v : CV) (vs : List CV) : Prop :=
  (∀ x ∈ vs, x.cells.length = sz) ∧ ((v = .nilSlice ∧ vs = []) ∨ ∃ b off c cs, v = .slice b off vs.length (.exact c) ∧ b < H.next ∧ H.get b = some (.look cs) ∧
    (vs = [] ∨ off + vs.length * sz ≤ cs.length) ∧ (cs.drop off).take (vs.length * sz) = vs.flatMap CV.cells)
theorem Look.ext {H H' : Heap} {sz n : Nat} {v : CV} {vs : List CV} (h : Look H sz v vs) (hx : Ext n H H') (hn : ∀ b off len cap, v = .slice b off len cap → b < n) : Look H' sz v vs := by
  refine ⟨h.1, ?_⟩
  rcases h.2 with h | ⟨b, off, c, cs, hv, h2, h3, h4, h5⟩
  · exact .inl h
  · exact .inr ⟨b, off, c, cs, hv, Nat.lt_of_lt_of_le h2 hx.1, hx.2 b _ (hn _ _ _ _ hv) h3, h4, h5⟩
theorem Look.lt {H : Heap} {sz : Nat} {v : CV} {vs : List CV} (h : Look H sz v vs) : ∀ b off len cap, v = .slice b off len cap → b < H.next := by
  intro b off len cap e'
  rcases h.2 with ⟨e, _⟩ | ⟨b', _, _, _, e, hb, _⟩
  · rw [e] at e'; cases e'
  · rw [e] at e'; injection e' with e1; rw [← e1]; exact hb
theorem Look.at {P : Program} {H : Heap} {sz e t : Nat} {v : CV} {vs : List CV} (h : Look H sz v vs) (ht : P.underlying t = some (.slice e)) (hs : szC P e = some sz) {i : Nat} (hi : i < vs.length) :
    ∃ b off cs, b < H.next ∧ (∃ o len cap, v = .slice b o len cap) ∧ (∀ k, indexAddrC P t v (.int k (i : Int)) = some (.ptr b off)) ∧
      H.get b = some (.look cs) ∧ takeE sz (cs.drop off) = some vs[i].cells ∧ ∀ (k : Nat) (c : CV), vs[i].cells[k]? = some c → cs[off + k]? = some c := by
  rcases h.2 with ⟨_, rfl⟩ | ⟨b, off, c0, cs, rfl, h2, h3, h4, h5⟩
  · simp at hi
  · have h4 : off + vs.length * sz ≤ cs.length := by
      rcases h4 with e | h4
      · rw [e] at hi; simp at hi
      · exact h4
    have hle : i * sz + sz ≤ vs.length * sz := by rw [← Nat.succ_mul]; exact Nat.mul_le_mul_right _ hi
    have htake : takeE sz (cs.drop (off + i * sz)) = some vs[i].cells := by
      rw [takeE_of (by rw [List.length_drop]; omega)]
      rw [← flat_part hi h.1, ← h5, List.drop_take, List.drop_drop, List.take_take]
      congr 2
      omega
    refine ⟨b, off + i * sz, cs, h2, ⟨_, _, _, rfl⟩, fun k => ?_, h3, htake, fun k c hc => ?_⟩
    · show indexAddrC P t _ (.int k (Int.ofNat i)) = _
      unfold indexAddrC
      simp only [ht, blt_t hi, hs, Option.map_some]
    · obtain ⟨h6, _⟩ := takeE_eq htake
      rw [h6, List.getElem?_take] at hc
      split at hc
      · rw [List.getElem?_drop] at hc; exact hc
      · cases hc
theorem Look.len {P : Program} {H : Heap} {sz e t : Nat} {v : CV} {vs : List CV} (h : Look H sz v vs) (ht : P.underlying t = some (.slice e)) (H' : Heap) : lenC P t H' v = some (.int .i64 vs.length) := by
  rcases h.2 with ⟨rfl, rfl⟩ | ⟨b, off, c, cs, rfl, h2, h3, h4, h5⟩
  · simp [lenC, ht]
  · simp [lenC, ht]

/-- A slice that was made by appending: it is the whole of its block. -/
def Own (H : Heap) (f sz e : Nat) (v : CV) (vs : List CV) : Prop :=
  (∀ x ∈ vs, x.cells.length = sz) ∧ ((v = .nilSlice ∧ vs = []) ∨ ∃ b p, v = .slice b 0 vs.length (.tail sz) ∧ vs ≠ [] ∧ b < H.next ∧ f ≤ b ∧ H.get b = some (.cells (vs.flatMap CV.cells) e (some (f, p))))

theorem Own.has {H : Heap} {f sz e : Nat} {v : CV} {vs : List CV} (h : Own H f sz e v vs) : Has H sz e v vs := by
  refine ⟨h.1, ?_⟩
  rcases h.2 with h' | ⟨b, p, rfl, _, h1, _, h2⟩
  · exact .inl h'
  · refine .inr ⟨b, 0, .tail sz, _, _, rfl, fun _ _ e => (by cases e), h1, h2, ?_, ?_⟩
    · rw [flat_length h.1]; omega
    · rw [List.drop_zero, List.take_of_length_le (by rw [flat_length h.1]; omega)]
theorem Own.ext {H H' : Heap} {f sz e n : Nat} {v : CV} {vs : List CV} (h : Own H f sz e v vs) (hx : Ext n H H') (hn : ∀ b off len cap, v = .slice b off len cap → b < n) : Own H' f sz e v vs := by
  refine ⟨h.1, ?_⟩
  rcases h.2 with h | ⟨b, p, hv, h1, h2, h3, h4⟩
  · exact .inl h
  · exact .inr ⟨b, p, hv, h1, Nat.lt_of_lt_of_le h2 hx.1, h3, hx.2 b _ (hn _ _ _ _ hv) h4⟩

theorem Has.elems {H : Heap} {sz e : Nat} {v : CV} {vs : List CV} (h : Has H sz e v vs) : elemsC H sz v = some (vs.length, vs.flatMap CV.cells) := by
  rcases h.2 with ⟨rfl, rfl⟩ | ⟨b, off, cap, cs, fam, rfl, h1, h2, h3, h4, h5⟩
  · rfl
  · unfold elemsC
    cases hn : vs.length with
    | zero => simp [List.length_eq_zero_iff.1 hn]
    | succ n =>
      rw [hn] at h4 h5
      simp only []
      have : takeE ((n + 1) * sz) (List.drop off cs) = some (vs.flatMap CV.cells) := by rw [takeE_of (by rw [List.length_drop]; omega), h5]
      cases cap with
      | tailE s o => exact absurd rfl (h1 s o)
      | exact m => simp only [h3, this, Option.map_some]
      | tail s => simp only [h3, this, Option.map_some]

/-- Appending to such a slice. -/
theorem Own.append {P : Program} {H : Heap} {f sz e t0 t1 : Nat} {v x : CV} {vs ys : List CV} {i : TypeInfo} {z : List CV} {d : TypeDesc} (h : Own H f sz e v vs) (hk : HOk H)
    (hx : elemsC H sz x = some (ys.length, ys.flatMap CV.cells)) (hy : ∀ y ∈ ys, y.cells.length = sz) (hy0 : ys ≠ []) (h0 : P.underlying t0 = some (.slice e)) (h1 : P.underlying t1 = some d) (h1' : ∀ k, d ≠ .int k)
    (hi : P.info? e = some i) (hsz : i.size = sz) (hsz0 : 0 < sz) (hz : zeroC P e = some z) (hzl : z.length = sz) (hsingle : (ys.flatMap CV.cells).all CV.single = true)
    (hroom : 2 * (vs.length + ys.length) * i.bytes ≤ 140737488355328) (hroom' : vs.length + ys.length ≤ 140737488355328) :
    ∃ v' H' f', appendC P t0 t1 H v x = some (v', H') ∧ (v = .nilSlice → f' = H.next) ∧ (v ≠ .nilSlice → f' = f) ∧ Own H' f' sz e v' (vs ++ ys) ∧ HOk H' ∧ H'.next = H.next + 1 ∧
      (∀ b o, b < H.next → H.get b = some o → (v ≠ .nilSlice → ∀ g p, o.fam = some (g, p) → g ≠ f) → H'.get b = some o) := by
  have hl : ∀ x ∈ vs ++ ys, x.cells.length = sz := fun x hx => by rcases List.mem_append.1 hx with hx | hx; exact h.1 x hx; exact hy x hx
  obtain ⟨sz', rfl⟩ : ∃ s, sz = s + 1 := ⟨sz - 1, by omega⟩
  obtain ⟨m, hm⟩ : ∃ m, ys.length = m + 1 := ⟨ys.length - 1, by have := List.length_pos_iff.2 hy0; omega⟩
  have hapx : appendC P t0 t1 H v x = (match v with
          | .nilSlice => some (growNew H e (m + 1) (sz' + 1) (ys.flatMap CV.cells))
          | .slice b off len cap => match tailOf (sz' + 1) len cap, roomC H b off (sz' + 1) cap with
            | some tl, some c => match Nat.ble (len + ys.length) c with
              | true => match ys.length with
                | 0 => some (v, H)
                | _ + 1 => (writeC H b (off + len * (sz' + 1)) (ys.flatMap CV.cells)).map fun H' => (.slice b off (len + ys.length) (match tl with | true => .tail (sz' + 1) | false => cap), H')
              | false => match Nat.ble (2 * (len + ys.length) * i.bytes) 140737488355328 && Nat.ble (len + ys.length) 140737488355328 with
                | true => match tl with
                  | true => growAt H b off len ys.length (sz' + 1) e (ys.flatMap CV.cells)
                  | false => (elemsC H (sz' + 1) v).map fun (_, old) => growNew H e (len + ys.length) (sz' + 1) (old ++ ys.flatMap CV.cells)
                | false => none
            | _, _ => none
          | _ => none) ∨ ¬ (v = .nilSlice ∨ ∃ b off len cap, v = .slice b off len cap) := by
    by_cases hv : v = .nilSlice ∨ ∃ b off len cap, v = .slice b off len cap
    · left
      unfold appendC
      rw [h0, h1]
      cases d with
      | int k => exact absurd rfl (h1' k)
      | _ =>
        simp only [hi, hsz, hz, hx, Option.bind_some, beq_t hzl, hsingle, Bool.and_self]
        rcases hv with rfl | ⟨b, off, len, cap, rfl⟩
        · simp only [hm]
          rw [ble_t (by rw [← hm]; refine Nat.le_trans ?_ hroom; exact Nat.mul_le_mul_right _ (Nat.mul_le_mul_left _ (by omega))), ble_t (by omega)]
          rfl
        · rfl
    · exact .inr hv
  rcases h.2 with ⟨rfl, rfl⟩ | ⟨b, p, rfl, hne, hb, hfb, hget⟩
  · rcases hapx with hapx | hapx
    · refine ⟨_, _, H.next, hapx, fun _ => rfl, fun h => absurd rfl h, ?_, ?_, rfl, fun b o hb ho _ => ?_⟩
      · refine ⟨hl, .inr ⟨H.next, 0, ?_, by simpa using hy0, Nat.lt_succ_self _, Nat.le_refl _, ?_⟩⟩
        · simp [hm]
        · show (H.newF _).get H.next = _
          rw [Heap.newF_get, if_pos rfl]; simp
      · exact Hok.newF (fun f' p' e => by simp only [CObj.fam, Option.some.injEq, Prod.mk.injEq] at e; omega) hk
      · show (H.newF _).get b = _
        rw [Heap.newF_get, if_neg (by omega)]; exact ho
    · exact absurd (.inl rfl) hapx
  · rcases hapx with hapx | hapx
    · have hroomc : roomC H b 0 (sz' + 1) (.tail (sz' + 1)) = some vs.length := by
        simp only [roomC, hget, flat_length h.1, Nat.sub_zero, Nat.mul_div_cancel _ (Nat.succ_pos sz')]
      simp only [tailOf, beq_t rfl, hroomc] at hapx
      rw [ble_f (by omega), ble_t hroom, ble_t hroom'] at hapx
      simp only [Bool.and_self] at hapx
      unfold growAt at hapx
      rw [hget] at hapx
      simp only [beq_t rfl] at hapx
      rw [ble_t (by rw [flat_length h.1]; omega), blt_t (by omega), takeE_of (by rw [List.drop_zero, flat_length h.1]; omega)] at hapx
      simp only [Bool.and_self, Option.map_some, List.drop_zero, Nat.zero_add, Nat.add_zero] at hapx
      rw [List.take_of_length_le (by rw [flat_length h.1]; omega)] at hapx
      refine ⟨_, _, f, hapx, fun h => (by cases h), fun _ => rfl, ?_, ?_, ?_, fun b' o hb' ho hf => ?_⟩
      · refine ⟨hl, .inr ⟨H.next, p, ?_, by simp [hy0], ?_, by omega, ?_⟩⟩
        · simp
        · show H.next < (H.upd _ _ _).next + 1
          rw [Heap.upd_next]; exact Nat.lt_succ_self _
        · rw [Heap.newF_get, if_pos (Heap.upd_next ..).symm]; simp
      · exact Hok.newF (fun f' p' e => by simp only [CObj.fam, Option.some.injEq, Prod.mk.injEq] at e; rw [Heap.upd_next]; omega) (Hok.upd hget hk)
      · show (H.upd _ _ _).next + 1 = _
        rw [Heap.upd_next]
      · rw [Heap.newF_get, if_neg (by rw [Heap.upd_next]; omega)]
        show ((H.trim f b _).put b _).get b' = _
        have hbb : b' ≠ b := by
          intro e; subst e
          rw [hget] at ho; injection ho with ho; subst ho
          exact hf (by simp) f p rfl rfl
        rw [Heap.get_put, if_neg hbb, Heap.trim_get]
        split
        · rename_i hh
          exfalso
          obtain ⟨h2, h3⟩ := hh
          unfold keepIn at h3
          rw [ho] at h3
          simp only [beq_f hbb, Bool.false_or] at h3
          split at h3
          · rename_i cs e' g q e1
            injection e1 with e1
            have := (hk.fam b' o g q ho (by rw [e1]; rfl)).2.2 f h2
            exact hf (by simp) g q (by rw [e1]; rfl) this.symm
          · cases h3
        · exact ho
    · exact absurd (.inr ⟨_, _, _, _, rfl⟩) hapx

theorem Own.lt {H : Heap} {f sz e : Nat} {v : CV} {vs : List CV} (h : Own H f sz e v vs) : ∀ b off len cap, v = .slice b off len cap → b < H.next := by
  intro b off len cap e'
  rcases h.2 with ⟨e, _⟩ | ⟨b', p, e, _, hb, _⟩
  · rw [e] at e'; cases e'
  · rw [e] at e'; injection e' with e1; rw [← e1]; exact hb
theorem Has.lt {H : Heap} {sz e : Nat} {v : CV} {vs : List CV} (h : Has H sz e v vs) : ∀ b off len cap, v = .slice b off len cap → b < H.next := by
  intro b off len cap e'
  rcases h.2 with ⟨e, _⟩ | ⟨b', _, _, _, _, e, _, hb, _⟩
  · rw [e] at e'; cases e'
  · rw [e] at e'; injection e' with e1; rw [← e1]; exact hb
/-- Blocks that are older than the family stay. -/
theorem keep_ext {H H' : Heap} {f n : Nat} {v : CV} (hk : HOk H) (hnext : H.next ≤ H'.next) (hn : n ≤ H.next) (hf : v ≠ .nilSlice → n ≤ f)
    (h : ∀ b o, b < H.next → H.get b = some o → (v ≠ .nilSlice → ∀ g p, o.fam = some (g, p) → g ≠ f) → H'.get b = some o) : Ext n H H' :=
  ⟨hnext, fun b o hb ho => h b o (by omega) ho (fun hv g p hg => by have := (hk.fam b o g p ho hg).1; have := hf hv; omega)⟩
end Go.K
