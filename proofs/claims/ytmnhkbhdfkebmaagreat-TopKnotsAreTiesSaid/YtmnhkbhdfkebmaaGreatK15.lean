/- A function with one range over a function, as a hook. The sort of texts once more: by insertion, as the kernel can carry it out. Known runs in stages: between two stages what is no longer wanted is forgotten. -/
import Derived.Test.YtmnhkbhdfkebmaaGreatK14
import Derived.Test.YtmnhkbhdfkebmaaGreatK11

set_option linter.unusedSimpArgs false
set_option linter.unusedVariables false

namespace Go.K
set_option linter.unusedSimpArgs false
set_option linter.unusedVariables false
section
variable {P : Program} {X : CallFn} {η η' η0 : Eta} {H H' H0 : Heap} {w w' w0 : World} {m : Nat}

/-- Codes one behind another, and what follows them. -/
def behindL : List Code → Code → Code
  | [], r => r
  | c :: cs, r => .seq c (behindL cs r)
def recAll (rec : RunFn) (nt : Nat) : List Code → Env → Heap → Option (Env × Heap)
  | [], env, H => some (env, H)
  | c :: cs, env, H => match rec nt c env H with
    | some (.normal, e, H1) => recAll rec nt cs e H1
    | _ => none
theorem recAll_mono {rec rec' : RunFn} (h : RLe rec rec') {nt : Nat} : ∀ {cs : List Code} {env : Env} {H : Heap} {r : Env × Heap}, recAll rec nt cs env H = some r → recAll rec' nt cs env H = some r
  | [], env, H, r, e => e
  | c :: cs, env, H, r, e => by
    unfold recAll at e ⊢
    split at e
    · rename_i h1
      simp only [h _ _ _ _ _ h1]
      exact recAll_mono h e
    · cases e
theorem recAll_grows (hX : CallOK P X) (hm : P.follows .mixedOrders = true) {nt : Nat} : ∀ {cs : List Code} {env : Env} {H : Heap} {env' : Env} {H' : Heap}, recAll (go P X) nt cs env H = some (env', H') → Grows H H'
  | [], env, H, env', H', e => by
    simp only [recAll, Option.some.injEq, Prod.mk.injEq] at e
    rw [← e.2]; exact Grows.refl H
  | c :: cs, env, H, env', H', e => by
    unfold recAll at e
    split at e
    · rename_i h1
      exact (go_sound hX hm _ _ _ _ _ _ _ h1).1.trans (recAll_grows hX hm e)
    · cases e
theorem behind_wpR (hX : CallOK P X) (hm : P.follows .mixedOrders = true) {nt : Nat} {r : Code} : ∀ {cs : List Code} {env env' : Env} {H H' : Heap}, recAll (go P X) nt cs env H = some (env', H') → ∀ {η : Eta} {a : Act} {w : World}, ARel η nt env a → HRel η H w → ∀ {Q : Exit → Act → World → Prop},
    (∀ η' a' w', ARel η' nt env' a' → Moved η H w η' H' w' → r.wpIn (Fr none) m P Q a' w') → (behindL cs r).wpIn (Fr none) m P Q a w
  | [], env, env', H, H', e, η, a, w, ha, hH, Q, hQ => by
    simp only [recAll, Option.some.injEq, Prod.mk.injEq] at e
    obtain ⟨rfl, rfl⟩ := e
    exact hQ η a w ha (Moved.refl hH)
  | c :: cs, env, env', H, H', e, η, a, w, ha, hH, Q, hQ => by
    unfold recAll at e
    split at e
    · rename_i e1 H1 h1
      show (Code.seq c (behindL cs r)).wpIn (Fr none) m P Q a w
      refine wpIn_seq ((go_soundR hX hm _ _ _ _ _ _ _ h1).2 η a w ha hH _ ?_)
      intro η1 a1 w1 ha1 m1
      exact behind_wpR hX hm e ha1 m1.rel (fun η2 a2 w2 ha2 m2 => hQ η2 a2 w2 ha2 (Moved.trans hH m1 m2))
    · cases e

theorem rounds_grows (hX : CallOK P X) (hm : P.follows .mixedOrders = true) {nt : Nat} {env : Env} {ps : List Nat} {assign body : Code} {args : Nat → Heap → Option (List CV)} : ∀ {k j : Nat} {H H' : Heap}, rounds (go P X) nt env ps assign body args k j H = some H' → Grows H H'
  | 0, j, H, H', e => by simp only [rounds, Option.some.injEq] at e; subst e; exact Grows.refl H
  | k + 1, j, H, H', e => by
    unfold rounds at e
    split at e
    · split at e
      · split at e
        · rename_i h1
          split at e
          · rename_i h2
            exact ((go_sound hX hm _ _ _ _ _ _ _ h1).1.trans (go_sound hX hm _ _ _ _ _ _ _ h2).1).trans (rounds_grows hX hm e)
          · cases e
        · cases e
      · cases e
    · cases e

/-- The parts of such a function. -/
structure RFn where
  f : Nat
  fn : Func
  nargs : Nat
  A : List Code
  Rg : Code
  o : Nat
  tg : Nat
  ps : Array Tmp
  assign : Code
  body : Code
  ci : Nat
  cops : Array Oper
  cd : Bool

abbrev RFn.nt (R : RFn) : Nat := R.nargs + (R.fn.ntmps - R.nargs)
/-- How an iterator's rounds go: told by the function and what it has captured. -/
abbrev Iters := RunFn → Nat → Env → List Nat → Code → Code → Nat → Nat → Heap → Option Heap
def rfX (P : Program) (it : Iters) (R : RFn) (rec : RunFn) : CallFn := fun f args H =>
  match Nat.beq f R.f && Nat.beq args.length R.nargs with
  | true => match recAll rec R.nt R.A (envOf args 0 .nil) H with
    | some (e1, H1) => match rec R.nt R.Rg e1 H1 with
      | some (.normal, e2, H2) => match e2.get R.tg with
        | some (.func (.func gf) [] [.ptr bx 0]) => match it rec R.nt e2 R.ps.toList R.assign R.body gf bx H2 with
          | some H3 => match rec R.nt (.region R.ci R.cops R.cd) e2 H3 with
            | some (.normal, e4, H4) => (resultsC P R.fn.results.toList e4 H4).map fun v => (v, H4)
            | _ => none
          | none => none
        | _ => none
      | _ => none
    | _ => none
  | false => none

/-- What is wanted of the iterators. -/
def ItersOK (P : Program) (X : CallFn) (it : Iters) : Prop := ∀ (rec : RunFn), RLe rec (go P X) → ∀ {nt : Nat} {env : Env} {ps : Array Tmp} {assign body : Code} {gf bx : Nat} {H H' : Heap}, it rec nt env ps.toList assign body gf bx H = some H' →
  Grows H H' ∧ (∀ args w, (callFunc gf args).run P w = .ok (.enter gf args) w) ∧ ∀ {η0 : Eta} {w0 W : World} {ly D m : Nat} {tmps : Array Value} {fn : FuncId} {vb : Value}, HRel η0 H w0 → ARel η0 nt env ⟨tmps, []⟩ → (∀ p ∈ ps.toList, p < nt) → (CV.ptr bx 0).val η0 = some vb →
    Rd η0 H w0 ly D (recL fn tmps ps assign body D) η0 H W → CallsIn (Fr none) m P gf #[.func (.yield ly) #[] #[], vb] W fun e W' => (∃ v, e = .returned v) ∧ ∃ η', Rd η0 H w0 ly D (recL fn tmps ps assign body D) η' H' W'

theorem rfX_ok (hX : CallOK P X) (hm : P.follows .mixedOrders = true) {it : Iters} (hit : ItersOK P X it) {R : RFn} {rec : RunFn} (hrec : RLe rec (go P X)) (hf : P.funcs[R.f]? = some R.fn) (hname : (R.fn.name == "runtime.NumGoroutine") = false)
    (hbody : R.fn.body = some (behindL R.A (.seq (.seq R.Rg (.block R.o (.rangeFunc (.tmp R.tg) R.ps R.assign R.body))) (.seq (.region R.ci R.cops R.cd) .ret)))) (hps : ∀ p ∈ R.ps.toList, p < R.nt) : CallOK P (rfX P it R rec) := by
  intro f args H r H' h
  unfold rfX at h
  split at h
  rotate_left
  · cases h
  rename_i hf9
  simp only [Bool.and_eq_true] at hf9
  have hff : f = R.f := Nat.eq_of_beq_eq_true hf9.1
  have hal1 : args.length = R.nargs := Nat.eq_of_beq_eq_true hf9.2
  subst hff
  split at h
  rotate_left
  · cases h
  rename_i e1 H1 hA
  split at h
  rotate_left
  · cases h
  rename_i e2 H2 hG
  split at h
  rotate_left
  · cases h
  rename_i gf bx hgf
  split at h
  rotate_left
  · cases h
  rename_i H3 hI
  split at h
  rotate_left
  · cases h
  rename_i e4 H4 hC
  simp only [Option.map_eq_some_iff, Prod.mk.injEq] at h
  obtain ⟨v, hv, rfl, rfl⟩ := h
  have hA := recAll_mono hrec hA
  have hG := hrec _ _ _ _ _ hG
  have hC := hrec _ _ _ _ _ hC
  have gA := recAll_grows hX hm hA
  obtain ⟨gG, _⟩ := go_sound hX hm _ _ _ _ _ _ _ hG
  obtain ⟨gC, _⟩ := go_sound hX hm _ _ _ _ _ _ _ hC
  obtain ⟨gI, hent, hcall⟩ := hit rec hrec hI
  refine ⟨gA.trans (gG.trans (gI.trans gC)), fun η w vs hH hvs => .inl ⟨?_, ?_⟩⟩
  · simp only [callFunc, Sem.run_bind, run_program, Result.andThen_ok, hf, hname, Bool.false_eq_true, if_false, Sem.run_pure]
    rw [hbody]
    simp only [Option.isNone_some, Bool.false_eq_true, if_false, Sem.run_pure]
  · refine (callsIn_wide (n := 1)).1 (callsIn_of_wp_marks (F := Fr none) (n := 1) hf hbody trivial ?_)
    have hentr : ARel η R.nt (envOf args 0 .nil) { tmps := vs.toArray ++ Array.replicate (R.fn.ntmps - vs.toArray.size) undef, defers := [] } := by
      have := enter_rel (ntmps := R.fn.ntmps) hvs
      rw [hal1] at this
      exact this
    refine behind_wpR hX hm hA hentr hH ?_
    intro η1 a1 w1 ha1 m1
    refine wpIn_seq (wpIn_seq ((go_soundR hX hm _ _ _ _ _ _ _ hG).2 η1 a1 w1 ha1 m1.rel _ ?_))
    intro η2 a2 w2 ha2 m2
    have hfv := evC_sound ha2 (.tmp R.tg) _ hgf
    obtain ⟨vb, hvb, hfe⟩ : ∃ vb, (CV.ptr bx 0).val η2 = some vb ∧ a2.eval (.tmp R.tg) = .func (.func gf) #[] #[vb] := by
      obtain ⟨l1, l2, h1, h2, h3⟩ := val_func hfv
      simp only [CV.vals, Option.some.injEq] at h1
      subst h1
      cases hvp : (CV.ptr bx 0).val η2 with
      | none => simp only [CV.vals, hvp] at h2; cases h2
      | some u =>
        simp only [CV.vals, hvp, Option.bind_some, Option.map_some, Option.some.injEq] at h2
        subst h2
        exact ⟨u, rfl, h3⟩
    have hmm : Moved η H w η2 H2 w2 := Moved.trans hH m1 m2
    have hat : a2 = ⟨a2.tmps, []⟩ := by
      obtain ⟨t, d⟩ := a2
      have := ha2.defers
      simp only at this
      subst this; rfl
    refine wpIn_block (range_stmt (η := η2) (H := H2) (H' := H3) m2.rel hfe hent (fun fn ly D W hRd => ?_) ?_)
    · have := hcall (m := 1 - 1) (fn := fn) (tmps := a2.tmps) m2.rel (by rw [← hat]; exact ha2) hps hvb hRd
      simpa using this
    · intro η3 D W3 m3 hD hDb
      show Exit.inBlock R.o _ .normal _ W3
      simp only [Exit.inBlock]
      have hmore : { a2 with defers := { target := .collected D, args := #[] } :: a2.defers } = a2.more [{ target := .collected D, args := #[] }] := by
        rw [hat]; rfl
      rw [hmore]
      refine wpIn_seq (region_more hX hm hC (ha2.mono m3.keeps.le) m3.rel ?_)
      intro η4 a4 w4 ha4 m4
      refine wpIn_ret ?_
      have hDb4 := m4.book m3.rel hDb trivial
      have hdef : (a4.more [{ target := .collected D, args := #[] }]).defers = [{ target := .collected D, args := #[] }] := by
        show a4.defers ++ _ = _
        rw [ha4.defers]; rfl
      have mF : Moved η H w η4 H4 w4 := Moved.trans hH hmm (Moved.trans m2.rel m3 m4)
      have mP := mF.putObj hDb4 trivial (Nat.le_trans hmm.keeps.size hD) (.deferred none)
      obtain ⟨v', hv', hr⟩ := results_sound ha4 mP.rel hv
      show LeavesInM (Fr none) 1 P R.fn a4.tmps (CallPost η H w v H4) (a4.more [{ target := .collected D, args := #[] }]).defers .returning w4
      rw [hdef]
      refine ⟨by simp, .inl ⟨D, _, rfl, run_takeDeferred hDb4, ?_⟩⟩
      exact ⟨v', hr, η4, v', rfl, hv', mP.rel, mP.keeps⟩
end
end Go.K

namespace Go.K
open Go.Sort Go.Proofs
set_option linter.unusedSimpArgs false
set_option linter.unusedVariables false

def insB (x : List UInt8) : List (List UInt8) → List (List UInt8)
  | [] => [x]
  | y :: t => match bytesLt y x with
    | true => y :: insB x t
    | false => x :: y :: t
def isortB : List (List UInt8) → List (List UInt8)
  | [] => []
  | x :: t => insB x (isortB t)
theorem bytesLt_iff : ∀ {x y : List UInt8}, bytesLt x y = true ↔ x < y
  | x, [] => by cases x <;> simp [bytesLt]
  | [], b :: y => by simp [bytesLt]
  | a :: x, b :: y => by
    simp only [bytesLt]
    rw [List.cons_lt_cons_iff]
    cases h1 : Nat.blt a.toNat b.toNat with
    | true =>
      have : a < b := UInt8.lt_iff_toNat_lt.2 (by simpa [Nat.blt_eq] using h1)
      simp [this]
    | false =>
      have hn : ¬ a < b := fun h => by
        have := UInt8.lt_iff_toNat_lt.1 h
        rw [blt_t this] at h1; cases h1
      cases h2 : Nat.beq a.toNat b.toNat with
      | true =>
        have e : a = b := UInt8.toNat_inj.1 (Nat.eq_of_beq_eq_true h2)
        subst e
        simp [hn, bytesLt_iff (x := x) (y := y)]
      | false =>
        have e : a ≠ b := fun e => Nat.ne_of_beq_eq_false h2 (e ▸ rfl)
        simp [hn, e]
theorem insB_perm (x : List UInt8) : ∀ l, (insB x l).Perm (x :: l)
  | [] => .refl _
  | y :: t => by
    simp only [insB]
    split
    · exact ((insB_perm x t).cons y).trans (.swap x y t)
    · exact .refl _
theorem isortB_perm : ∀ l, (isortB l).Perm l
  | [] => .refl _
  | x :: t => (insB_perm x _).trans ((isortB_perm t).cons x)
theorem insB_sorted (x : List UInt8) : ∀ {l}, l.Pairwise (fun a b : List UInt8 => a ≤ b) → (insB x l).Pairwise fun a b => a ≤ b
  | [], _ => by simp [insB]
  | y :: t, h => by
    rw [List.pairwise_cons] at h
    simp only [insB]
    cases hb : bytesLt y x with
    | true =>
      rw [List.pairwise_cons]
      refine ⟨fun z hz => ?_, insB_sorted x h.2⟩
      rcases List.mem_cons.1 ((insB_perm x t).mem_iff.1 hz) with rfl | hz
      · exact List.le_of_lt (bytesLt_iff.1 hb)
      · exact h.1 z hz
    | false =>
      have hxy : x ≤ y := List.not_lt.1 fun hlt => by rw [bytesLt_iff.2 hlt] at hb; cases hb
      rw [List.pairwise_cons, List.pairwise_cons]
      refine ⟨fun z hz => ?_, h.1, h.2⟩
      rcases List.mem_cons.1 hz with rfl | hz
      · exact hxy
      · exact List.le_trans hxy (h.1 z hz)
theorem isortB_sorted : ∀ l, (isortB l).Pairwise fun a b : List UInt8 => a ≤ b
  | [] => .nil
  | x :: t => insB_sorted x (isortB_sorted t)
theorem isortB_eq (l : List (List UInt8)) : isortB l = l.mergeSort fun x y => decide (x ≤ y) := by
  refine List.Perm.eq_of_pairwise (le := fun a b : List UInt8 => a ≤ b) (fun a b _ _ h1 h2 => List.le_antisymm h1 h2) (isortB_sorted l) ?_ ((isortB_perm l).trans (List.mergeSort_perm l _).symm)
  have := List.pairwise_mergeSort (le := fun x y : List UInt8 => decide (x ≤ y)) (fun a b c h1 h2 => by simp only [decide_eq_true_eq] at h1 h2 ⊢; exact List.le_trans h1 h2) (fun a b => by
    simp only [Bool.or_eq_true, decide_eq_true_eq]; exact List.le_total a b) l
  exact this.imp fun h => by simpa using h

def sortK (f0 : Nat) : CallFn := fun f args H =>
  match Nat.beq f f0, args with
  | true, [.slice b 0 len (.tail 1)] => match H.get b with
    | some (.cells cs e fam) => match strsC cs with
      | some ss => match Nat.beq cs.length len && Nat.blt len 4611686018427387904 with
        | true => some (.tuple [], H.upd b (.cells ((isortB ss).map strC) e fam) 0)
        | false => none
      | none => none
    | _ => none
  | _, _ => none
theorem sortK_eq (f0 : Nat) : sortK f0 = sortC f0 := by
  funext f args H
  unfold sortK sortC
  simp only [isortB_eq]
  rfl
end Go.K

namespace Go.K
set_option linter.unusedSimpArgs false
set_option linter.unusedVariables false

def pruneE (e : Env) : List Nat → Env
  | [] => .nil
  | t :: ts => match e.get t with
    | some v => (pruneE e ts).set t v
    | none => pruneE e ts
def pruneO (H : Heap) : List Nat → Tr CObj
  | [] => .nil
  | b :: bs => match H.get b with
    | some o => (pruneO H bs).set b o
    | none => pruneO H bs
def pruneF (H : Heap) : List Nat → Tr (List Nat)
  | [] => .nil
  | b :: bs => match H.get b with
    | some o => match o.fam with
      | some (f, _) => (pruneF H bs).set f (b :: ((pruneF H bs).get f).getD [])
      | none => pruneF H bs
    | none => pruneF H bs
def pruneH (H : Heap) (bs : List Nat) : Heap := ⟨H.next, pruneO H bs, pruneF H bs⟩

theorem pruneE_get {e : Env} {t : Nat} {v : CV} : ∀ {ts : List Nat}, (pruneE e ts).get t = some v → e.get t = some v
  | [], h => by simp [pruneE, Tr.get_nil] at h
  | u :: ts, h => by
    unfold pruneE at h
    split at h
    · rename_i x hx
      rw [Tr.get_set] at h
      split at h
      · rename_i e1; subst e1; rw [hx]; exact h
      · exact pruneE_get h
    · exact pruneE_get h
theorem pruneO_get {H : Heap} {b : Nat} {o : CObj} : ∀ {bs : List Nat}, (pruneO H bs).get b = some o → H.get b = some o ∧ b ∈ bs
  | [], h => by simp [pruneO, Tr.get_nil] at h
  | c :: bs, h => by
    unfold pruneO at h
    split at h
    · rename_i x hx
      rw [Tr.get_set] at h
      split at h
      · rename_i e1; subst e1; rw [hx]; exact ⟨h, List.mem_cons_self ..⟩
      · exact ⟨(pruneO_get h).1, List.mem_cons_of_mem _ (pruneO_get h).2⟩
    · exact ⟨(pruneO_get h).1, List.mem_cons_of_mem _ (pruneO_get h).2⟩
theorem pruneF_mem {H : Heap} {b f p : Nat} {o : CObj} (ho : H.get b = some o) (hf : o.fam = some (f, p)) : ∀ {bs : List Nat}, b ∈ bs → b ∈ ((pruneF H bs).get f).getD []
  | [], h => by simp at h
  | c :: bs, h => by
    unfold pruneF
    rcases List.mem_cons.1 h with rfl | h
    · rw [ho]
      simp only [hf, Tr.get_set, if_true, Option.getD_some]
      exact List.mem_cons_self ..
    · have ih := pruneF_mem ho hf h
      split
      · split
        · rename_i g q _
          rw [Tr.get_set]
          split
          · rename_i e; subst e
            exact List.mem_cons_of_mem _ ih
          · exact ih
        · exact ih
      · exact ih
section
variable {P : Program} {X : CallFn} {η η' η0 : Eta} {H H' H0 : Heap} {w w' w0 : World}

theorem HRel.prune (h : HRel η H w) (bs : List Nat) : HRel η (pruneH H bs) w :=
  ⟨fun b o hb => h.obj b o (pruneO_get hb).1, h.dom, fun b b' o o' x x' hb hb' => h.inj b b' o o' x x' (pruneO_get hb).1 (pruneO_get hb').1,
   fun b o f p hb hf => pruneF_mem (pruneO_get hb).1 hf (pruneO_get hb).2, fun b o f p hb hf => h.famlt b o f p (pruneO_get hb).1 hf⟩
theorem Moved.prune (h : Moved η H w η' H' w') (bs : List Nat) : Moved η H w η' (pruneH H' bs) w' :=
  ⟨h.rel.prune bs, h.keeps, h.grows.1, fun b o hb => h.grows.2 b o (pruneO_get hb).1⟩
theorem ARel.prune {nt : Nat} {e : Env} {a : Act} (h : ARel η nt e a) (ts : List Nat) : ARel η nt (pruneE e ts) a :=
  ⟨h.defers, h.size, fun t c ht => h.get t c (pruneE_get ht)⟩

/-- One stage of a run. -/
def stage (rec : RunFn) (nt : Nat) (cs : List Code) (ts bs : List Nat) (e : Env) (H : Heap) : Option (Env × Heap) := match recAll rec nt cs e H with
  | some (e', H') => some (pruneE e' ts, pruneH H' bs)
  | none => none

theorem stage_wp (hX : CallOK P X) (hm : P.follows .mixedOrders = true) {rec : RunFn} (hrec : RLe rec (go P X)) {nt m : Nat} {r : Code} {cs : List Code} {ts bs : List Nat} {env env' : Env} (h : stage rec nt cs ts bs env H = some (env', H')) {a : Act} (ha : ARel η nt env a) (hH : HRel η H w) {Q : Exit → Act → World → Prop}
    (hQ : ∀ η' a' w', ARel η' nt env' a' → Moved η H w η' H' w' → r.wpIn (Fr none) m P Q a' w') : (behindL cs r).wpIn (Fr none) m P Q a w := by
  unfold stage at h
  split at h
  · rename_i e1 H1 h1
    simp only [Option.some.injEq, Prod.mk.injEq] at h
    obtain ⟨rfl, rfl⟩ := h
    exact behind_wpR hX hm (recAll_mono hrec h1) ha hH (fun η' a' w' ha' m' => hQ η' a' w' (ha'.prune ts) (m'.prune bs))
  · cases h

/-- A known answer: a hook for a function without arguments. -/
def knownC (f0 : Nat) (r : CV) : CallFn := fun f args H => match Nat.beq f f0, args with
  | true, [] => some (r, H)
  | _, _ => none
/-- What is wanted of it. -/
def Answers (P : Program) (f : Nat) (r : CV) : Prop := ∀ w, Invokes P f #[] w (CallPost (fun _ => none) noHeap w r noHeap)
theorem knownC_ok {f : Nat} {r : CV} (hr : r.flat = true) (h : Answers P f r) : CallOK P (knownC f r) := by
  intro f' args H r' H' e
  unfold knownC at e
  split at e
  · rename_i hf
    have := Nat.eq_of_beq_eq_true hf
    subst this
    simp only [Option.some.injEq, Prod.mk.injEq] at e
    obtain ⟨rfl, rfl⟩ := e
    refine ⟨Grows.refl _, fun η w vs hH hvs => ?_⟩
    simp only [CV.vals, Option.some.injEq] at hvs
    subst hvs
    refine (h w).mono ?_
    rintro e w' ⟨η', v, he, hv, _, hk⟩
    obtain ⟨h2, h3⟩ := hk.apart hH
    exact ⟨η, v, he, by rw [← hv]; exact CV.flat_val _ _ _ hr, h2, h3⟩
  · cases e
theorem knownC_hok (f : Nat) (r : CV) : CallHok (knownC f r) := by
  intro f' args H r' H' e
  unfold knownC at e
  split at e
  · simp only [Option.some.injEq, Prod.mk.injEq] at e
    rw [← e.2]; exact Hok.refl _
  · cases e
/-- A function whose run is known. -/
theorem answers_of {f : Nat} {fn : Func} {c : Code} {r : CV} {m : Nat} (hf : P.funcs[f]? = some fn) (hb : fn.body = some c) (hn : (fn.name == "runtime.NumGoroutine") = false)
    (h : ∀ w a, ARel (fun _ => none) fn.ntmps .nil a → HRel (fun _ => none) noHeap w → c.wpIn (Fr none) m P (fun ex a' w' => ex = .ret ∧ ∃ η' env' H', ARel η' fn.ntmps env' a' ∧ Moved (fun _ => none) noHeap w η' H' w' ∧ resultsC P fn.results.toList env' H' = some r) a w) (hr : r.flat = true) : Answers P f r := by
  intro w
  refine .inl ⟨?_, ?_⟩
  · simp only [callFunc, Sem.run_bind, run_program, Result.andThen_ok, hf, hn, Bool.false_eq_true, if_false, Sem.run_pure]
    rw [hb]
    simp only [Option.isNone_some, Bool.false_eq_true, if_false, Sem.run_pure]
  · refine (callsIn_wide (n := m)).1 (callsIn_of_wp (F := Fr none) (n := m) hf hb trivial ?_)
    have hent : ARel (fun _ => none) fn.ntmps .nil { tmps := (#[] : Array Value) ++ Array.replicate (fn.ntmps - (#[] : Array Value).size) undef, defers := [] } :=
      ⟨rfl, by simp, fun t c h => by rw [Tr.get_nil] at h; cases h⟩
    refine wpIn_mono (h w _ hent (noHeap_rel w)) ?_
    rintro ex a' w' ⟨rfl, η', env', H', ha', m', hres⟩
    obtain ⟨v, hv, hrun⟩ := results_sound ha' m'.rel hres
    refine ⟨ha'.defers, v, hrun, fun _ => none, v, rfl, ?_, noHeap_rel w', ?_⟩
    · rw [← hv]; exact CV.flat_val _ _ _ hr
    · exact ⟨m'.keeps.os, m'.keeps.tape, m'.keeps.output, m'.keeps.size, m'.keeps.block, Eta.le_refl _, fun b x h1 h2 => by cases h2⟩
end
end Go.K
