/- Quiet operations: one theorem. Memory: how the clean one and the world's go on together. Operations that make memory. -/
import Derived.Test.YtmnhkbhdfkebmaaGreatK2

set_option linter.unusedSimpArgs false
set_option linter.unusedVariables false

namespace Go.K
set_option linter.unusedSimpArgs false
set_option linter.unusedVariables false
section
variable {P : Program} {η : Eta} {H : Heap} {w : World}

/-- How what is found reads. -/
def foundVal (η : Eta) : Option (Nat × CV) → Option (Nat × Value) → Prop
  | none, none => True
  | some (i, c), some (j, v) => i = j ∧ c.val η = some v
  | _, _ => False

theorem sameNow_basic {d : Nat} {t : TypeId} {desc : TypeDesc} (hu : P.underlying t = some desc) (hb : desc = .bool ∨ desc = .string ∨ ∃ k, desc = .int k) {x y : CV} {x' y' : Value} {r : Bool}
    (hx : x.val η = some x') (hy : y.val η = some y') (h : ceq P d t x y = some r) : Instr.sameNow desc x' y' = some r := by
  cases d with
  | zero => simp [ceq] at h
  | succ d =>
    unfold ceq at h
    rw [hu] at h
    rcases hb with rfl | rfl | ⟨k, rfl⟩ <;> simp only at h
    · split at h <;> rename_i e <;> first | (cases e; done) | skip
      · rw [val_bool hx, val_bool hy]; injection h with h; subst h; rfl
      all_goals first | (cases h; done) | (rename_i e _ _; cases e)
    · split at h <;> rename_i e <;> first | (cases e; done) | skip
      · rw [val_str hx, val_str hy]; injection h with h; subst h; simp [Instr.sameNow, bytesEq_eq, beq_toListBytes, toList_data]
      all_goals first | (cases h; done) | (rename_i e _ _; cases e)
    · split at h <;> rename_i e <;> first | (cases e; done) | skip
      · rw [val_int hx, val_int hy]
        split at h
        · rename_i hk; injection h with h; subst h; simp [Instr.sameNow, hk, ieq_eq]
        · cases h
      all_goals first | (cases h; done) | (rename_i e _ _; cases e)

theorem findNow_sound {t : TypeId} {desc : TypeDesc} (hu : P.underlying t = some desc) (hb : desc = .bool ∨ desc = .string ∨ ∃ k, desc = .int k) {k : CV} {k' : Value} (hk : k.val η = some k') :
    ∀ {es : List (CV × CV × Nat)} {l : List MapEntry} {i : Nat} {r : Option (Nat × CV)}, entryVals η es = some l → findC P t k es i = some r → ∃ r', foundVal η r r' ∧ Instr.findNow desc k' l i = some r'
  | [], l, i, r, hl, h => by
    simp [entryVals] at hl; subst hl
    simp [findC] at h; subst h
    exact ⟨none, trivial, rfl⟩
  | (c, v, b) :: es, l, i, r, hl, h => by
    simp only [entryVals, Option.bind_eq_some_iff, Option.map_eq_some_iff] at hl
    obtain ⟨c', hc, v', hv, l', hl', rfl⟩ := hl
    unfold findC keyEq at h
    split at h
    · rename_i he
      injection h with h; subst h
      refine ⟨some (i, v'), ⟨rfl, hv⟩, ?_⟩
      simp only [Instr.findNow, sameNow_basic hu hb hk hc he]
    · rename_i he
      obtain ⟨r', hr, hf⟩ := findNow_sound hu hb hk hl' h
      refine ⟨r', hr, ?_⟩
      simp only [Instr.findNow, sameNow_basic hu hb hk hc he, hf]
    · cases h

theorem findAsking_sound {t : TypeId} {k : CV} {k' : Value} (hk : k.val η = some k') :
    ∀ {es : List (CV × CV × Nat)} {l : List MapEntry} {i : Nat} {r : Option (Nat × CV)}, entryVals η es = some l → findC P t k es i = some r →
      ∃ r', foundVal η r r' ∧ (Instr.findAsking t k' l i).run P w = .ok r' w
  | [], l, i, r, hl, h => by
    simp [entryVals] at hl; subst hl
    simp [findC] at h; subst h
    exact ⟨none, trivial, rfl⟩
  | (c, v, b) :: es, l, i, r, hl, h => by
    simp only [entryVals, Option.bind_eq_some_iff, Option.map_eq_some_iff] at hl
    obtain ⟨c', hc, v', hv, l', hl', rfl⟩ := hl
    unfold findC keyEq at h
    split at h
    · rename_i he
      injection h with h; subst h
      refine ⟨some (i, v'), ⟨rfl, hv⟩, ?_⟩
      simp only [Instr.findAsking, Sem.run_bind, Op.equal, ceq_sound Op.maxDepth hk hc he (by simp [Op.maxDepth]), Result.andThen_ok, if_true, Sem.run_pure]
    · rename_i he
      obtain ⟨r', hr, hf⟩ := findAsking_sound hk hl' h
      refine ⟨r', hr, ?_⟩
      simp only [Instr.findAsking, Sem.run_bind, Op.equal, ceq_sound Op.maxDepth hk hc he (by simp [Op.maxDepth]), Result.andThen_ok, Bool.false_eq_true, if_false, hf]
    · cases h

theorem findKey_sound {t : TypeId} {d : Nat} {k : CV} {k' : Value} (hk : k.val η = some k') (hkey : keyC P d t k = true) {es : List (CV × CV × Nat)} {l : List MapEntry} {r : Option (Nat × CV)}
    (hl : entryVals η es = some l) (h : findC P t k es 0 = some r) : ∃ r', foundVal η r r' ∧ (Instr.findKey t k' l).run P w = .ok r' w := by
  cases d with
  | zero => simp [keyC] at hkey
  | succ d =>
    unfold keyC at hkey
    have basic : ∀ desc, P.underlying t = some desc → (desc = .bool ∨ desc = .string ∨ ∃ k, desc = .int k) → ∃ r', foundVal η r r' ∧ (Instr.findKey t k' l).run P w = .ok r' w := by
      intro desc hu hb
      obtain ⟨r', hr, hf⟩ := findNow_sound hu hb hk hl h
      exact ⟨r', hr, by simp [Instr.findKey, underlying, hu, hf]⟩
    split at hkey
    · rename_i hu; exact basic _ hu (.inl rfl)
    · rename_i hu; exact basic _ hu (.inr (.inr ⟨_, rfl⟩))
    · rename_i hu; exact basic _ hu (.inr (.inl rfl))
    · rename_i fs cs hu
      obtain ⟨r', hr, hf⟩ := findAsking_sound (w := w) hk hl h
      refine ⟨r', hr, ?_⟩
      simp only [Instr.findKey, Sem.run_bind, und_run hu, Result.andThen_ok]
      cases l with
      | nil => simpa [Instr.findNow, Instr.findAsking] using hf
      | cons e l =>
        have : Instr.findNow (.struct fs) k' (e :: l) 0 = none := by simp [Instr.findNow, Instr.sameNow]
        rw [this]
        exact hf
    · cases hkey

theorem lookupC_sound (hH : HRel η H w) {t : TypeId} {x k : CV} {x' k' : Value} {ok : Bool} {c : CV} (hx : x.val η = some x') (hk : k.val η = some k') (h : lookupC P t H x k ok = some c) :
    ∃ v, c.val η = some v ∧ (Instr.lookup t x' k' ok).run P w = .ok v w := by
  unfold lookupC at h
  split at h
  · rename_i kt et hu
    split at h
    · rename_i b
      split at h
      · rename_i es ck hb
        split at h
        · rename_i hkey
          obtain ⟨x, hbx, rfl⟩ := val_map hx
          obtain ⟨y, hy, l, hl, hw⟩ := hH.obj _ _ hb
          rw [hbx] at hy; injection hy with hy; subst hy
          have hck := keyC_sound (e := l.toArray.isEmpty) (w := w) 10000 hk hkey (by omega)
          split at h
          · rename_i i v hf
            injection h with h; subst h
            obtain ⟨r', hr, hrun⟩ := findKey_sound (w := w) hk hkey hl hf
            cases r' with
            | none => exact hr.elim
            | some jv =>
              obtain ⟨j, v'⟩ := jv
              obtain ⟨rfl, hv⟩ := hr
              have run : (Instr.lookup t (.map (some x.blk)) k' ok).run P w = .ok (if ok then .tuple #[v', .bool true] else v') w := by
                simp only [Instr.lookup, Sem.run_bind, und_run hu, Result.andThen_ok, getObj, Sem.run, hw, Sem.run_pure, hck, hrun]
              rw [run]
              cases ok with
              | true => exact ⟨.tuple #[v', .bool true], by simp [CV.val, CV.vals, hv], rfl⟩
              | false => exact ⟨v', hv, rfl⟩
          · rename_i hf
            obtain ⟨r', hr, hrun⟩ := findKey_sound (w := w) hk hkey hl hf
            cases r' with
            | some jv => exact hr.elim
            | none =>
              split at h
              · rename_i i hi
                split at h
                · rename_i z hz
                  simp only [Option.map_eq_some_iff] at h
                  obtain ⟨v, hv, rfl⟩ := h
                  have hv' := ofVal_sound (η := η) 8 z v hv
                  have run : (Instr.lookup t (.map (some x.blk)) k' ok).run P w = .ok (if ok then .tuple #[z, .bool false] else z) w := by
                    simp only [Instr.lookup, Sem.run_bind, und_run hu, Result.andThen_ok, getObj, Sem.run, hw, Sem.run_pure, hck, hrun, zeroValue, typeInfo, run_program, hi, hz]
                  rw [run]
                  cases ok with
                  | true => exact ⟨.tuple #[z, .bool false], by simp [CV.val, CV.vals, hv'], rfl⟩
                  | false => exact ⟨z, hv', rfl⟩
                · cases h
              · cases h
          · cases h
        · cases h
      · cases h
    · cases h
  · cases h

theorem evs_sound {ρ : Operand → Option CV} {ρ' : Operand → Value} (hρ : ∀ x c, ρ x = some c → c.val η = some (ρ' x)) : ∀ {l : List Operand} {cs : List CV}, mapO ρ l = some cs → CV.vals η cs = some (l.map ρ')
  | [], cs, h => by simp [mapO] at h; subst h; rfl
  | x :: l, cs, h => by
    simp only [mapO, Option.bind_eq_some_iff, Option.map_eq_some_iff] at h
    obtain ⟨c, hc, cs', hcs, rfl⟩ := h
    simp [CV.vals, hρ _ _ hc, evs_sound hρ hcs]
theorem evParts_sound {ρ : Operand → Option CV} {ρ' : Operand → Value} (hρ : ∀ x c, ρ x = some c → c.val η = some (ρ' x)) : ∀ {l : List (Nat × Operand)} {cs : List (Nat × CV)},
    mapO (fun p : Nat × Operand => (ρ p.2).map fun v => (p.1, v)) l = some cs → partsVal η cs = some (l.map fun p => (p.1, ρ' p.2))
  | [], cs, h => by simp [mapO] at h; subst h; rfl
  | x :: l, cs, h => by
    simp only [mapO, Option.bind_eq_some_iff, Option.map_eq_some_iff] at h
    obtain ⟨_, ⟨c, hc, rfl⟩, cs', hcs, rfl⟩ := h
    simp [partsVal, hρ _ _ hc, evParts_sound hρ hcs]
theorem evO_sound {ρ : Operand → Option CV} {ρ' : Operand → Value} (hρ : ∀ x c, ρ x = some c → c.val η = some (ρ' x)) {x : Option Operand} {c : Option CV} (h : evO ρ x = some c) : optVal η c (x.map ρ') := by
  cases x with
  | none => simp [evO] at h; subst h; trivial
  | some x =>
    simp only [evO, Option.map_eq_some_iff] at h
    obtain ⟨v, hv, rfl⟩ := h
    exact hρ _ _ hv

theorem quiet_sound (hH : HRel η H w) {ρ : Operand → Option CV} {ρ' : Operand → Value} (hρ : ∀ x c, ρ x = some c → c.val η = some (ρ' x)) (o : Oper) {c : CV} (h : quietC P o.op ρ H = some c) :
    ∃ v, c.val η = some v ∧ (execOp ρ' o).run P w = .ok (.value v) w := by
  have val : ∀ {s : Sem Value}, (∃ v, c.val η = some v ∧ s.run P w = .ok v w) → ∃ v, c.val η = some v ∧ (do pure (Next.value (← s)) : Sem Next).run P w = .ok (.value v) w := by
    intro s ⟨v, hv, hs⟩
    exact ⟨v, hv, by simp [hs]⟩
  obtain ⟨dst, op, type, pos, after, guard⟩ := o
  cases op <;> simp only [quietC] at h <;> simp only [execOp] <;> try (cases h; done)
  case move x => exact ⟨_, hρ _ _ h, rfl⟩
  case assign x => exact ⟨_, hρ _ _ h, rfl⟩
  case pick x a b =>
    split at h
    · rename_i hc
      have := val_bool (hρ _ _ hc)
      exact ⟨_, hρ _ _ h, by simp [this, asBool]⟩
    · rename_i hc
      have := val_bool (hρ _ _ hc)
      exact ⟨_, hρ _ _ h, by simp [this, asBool]⟩
    · cases h
  case build t ps =>
    simp only [Option.bind_eq_some_iff] at h
    obtain ⟨ps', hps, h⟩ := h
    refine val ?_
    have := buildC_sound (w := w) (evParts_sound hρ hps) h
    rw [← List.map_toArray, Array.toArray_toList] at this
    exact this
  case load t a =>
    split at h
    · rename_i b off ha
      obtain ⟨x, hbx, hv⟩ := val_ptr (hρ _ _ ha)
      refine val ?_
      rw [hv]
      simpa [Instr.loadAt, Instr.sureAddr] using loadC_sound hH hbx h
    · cases h
  case nilCheck x =>
    split at h
    · rename_i b off hx
      obtain ⟨y, hby, hv⟩ := val_ptr (hρ _ _ hx)
      injection h with h; subst h
      exact ⟨_, hρ _ _ hx, by simp [hv]⟩
    · rename_i f fi ca hx
      obtain ⟨l, m, _, _, hv⟩ := val_func (hρ _ _ hx)
      injection h with h; subst h
      exact ⟨_, hρ _ _ hx, by simp [hv]⟩
    · cases h
  case binOp op t x y yt =>
    simp only [Option.bind_eq_some_iff] at h
    obtain ⟨x', hx, y', hy, h⟩ := h
    exact val (binC_sound (hρ _ _ hx) (hρ _ _ hy) h x y)
  case unOp op t x =>
    split at h
    · rename_i b hx
      injection h with h; subst h
      exact val ⟨_, rfl, by rw [val_bool (hρ _ _ hx)]; simp [Op.unary]⟩
    · rename_i k n hx
      injection h with h; subst h
      exact val ⟨_, rfl, by rw [val_int (hρ _ _ hx)]; simp [Op.unary, Op.intArith, wrap_eq]⟩
    · rename_i k n hx
      refine val ?_
      rw [val_int (hρ _ _ hx)]
      obtain ⟨v, hv, hr⟩ := intBin_sound (P := P) (η := η) (w := w) (t := 0) h (by simp) (by simp)
      refine ⟨v, hv, ?_⟩
      rw [binOp_xor] at hr
      exact hr
    · cases h
  case convert s d x =>
    simp only [Option.bind_eq_some_iff] at h
    obtain ⟨x', hx, h⟩ := h
    exact val (convC_sound (hρ _ _ hx) h)
  case makeInterface t x =>
    split at h
    · cases h
    · rename_i d hd hu
      simp only [Option.map_eq_some_iff] at h
      obtain ⟨x', hx, rfl⟩ := h
      refine val ⟨.iface t (ρ' x), by simp [CV.val, hρ _ _ hx], ?_⟩
      simp only [Instr.makeInterface, Sem.run_bind, und_run hu, Result.andThen_ok]
      cases d <;> first | (exact absurd rfl (hd _)) | rfl
    · cases h
  case makeFunc fn fi ca =>
    simp only [Option.bind_eq_some_iff, Option.map_eq_some_iff] at h
    obtain ⟨fi', hfi, ca', hca, rfl⟩ := h
    refine val ⟨.func fn (fi.map ρ') (ca.map ρ'), ?_, rfl⟩
    have h1 := evs_sound hρ hfi
    have h2 := evs_sound hρ hca
    simp only [CV.val, h1, h2, Option.bind_some, Option.map_some]
    simp [← Array.toList_map]
  case slice t x lo hi mx =>
    simp only [Option.bind_eq_some_iff] at h
    obtain ⟨x', hx, lo', hlo, hi', hhi, mx', hmx, h⟩ := h
    exact val (sliceC_sound hH (hρ _ _ hx) (evO_sound hρ hlo) (evO_sound hρ hhi) (evO_sound hρ hmx) h)
  case fieldAddr t x f =>
    simp only [Option.bind_eq_some_iff] at h
    obtain ⟨x', hx, h⟩ := h
    exact val (fieldAddrC_sound (hρ _ _ hx) h)
  case field t x f =>
    simp only [Option.bind_eq_some_iff] at h
    obtain ⟨x', hx, h⟩ := h
    exact val (fieldC_sound (hρ _ _ hx) h)
  case indexAddr t x i =>
    simp only [Option.bind_eq_some_iff] at h
    obtain ⟨x', hx, i', hi, h⟩ := h
    exact val (indexAddrC_sound (hρ _ _ hx) (hρ _ _ hi) h)
  case index t x i =>
    simp only [Option.bind_eq_some_iff] at h
    obtain ⟨x', hx, i', hi, h⟩ := h
    exact val (indexC_sound (hρ _ _ hx) (hρ _ _ hi) h)
  case lookup t x k ok =>
    simp only [Option.bind_eq_some_iff] at h
    obtain ⟨x', hx, k', hk, h⟩ := h
    exact val (lookupC_sound hH (hρ _ _ hx) (hρ _ _ hk) h)
  case extract x i =>
    split at h
    · rename_i vs hx
      obtain ⟨l, hl, hv⟩ := val_tuple (hρ _ _ hx)
      obtain ⟨v, hv', hi⟩ := CV.vals_get hl h
      exact val ⟨v, hv', by rw [hv]; simp [Instr.extract, hi]⟩
    · cases h
  case typeAssert x xt t ok =>
    simp only [Option.bind_eq_some_iff] at h
    obtain ⟨x', hx, h⟩ := h
    exact val (assertC_sound (hρ _ _ hx) h)
  case call cl =>
    obtain ⟨callee, args, argTypes⟩ := cl
    simp only at h
    split at h
    · split at h
      · rename_i x t hx ht
        simp only [Option.bind_eq_some_iff] at h
        obtain ⟨x', hx', h⟩ := h
        have := lenC_sound hH (hρ _ _ hx') h argTypes ht type (args.map ρ') (by simp [hx])
        obtain ⟨v, hv, hr⟩ := this
        exact ⟨v, hv, by simp [resolve, invoke, builtin, hr]⟩
      · cases h
    · simp only [Option.bind_eq_some_iff] at h
      obtain ⟨l, hl, h⟩ := h
      have hvs := evs_sound hρ hl
      cases l with
      | nil => cases h
      | cons x xs =>
        simp only at h
        have hvs' := hvs
        simp only [CV.vals, Option.bind_eq_some_iff, Option.map_eq_some_iff] at hvs
        obtain ⟨x', hx', xs', hxs', e⟩ := hvs
        obtain ⟨v, hv, hr⟩ := foldO_sound (P := P) (w := w) (g := Builtin.max2) (fun _ _ _ _ _ hx hy hc => maxC_sound hx hy hc) hx' hxs' h
        refine ⟨v, hv, ?_⟩
        have e' : (args.map ρ').toList = x' :: xs' := by rw [Array.toList_map]; exact e.symm
        simp only [resolve, invoke, builtin, Builtin.max_, e', Sem.run_bind, Sem.run_pure, Result.andThen_ok, hr]
    · simp only [Option.bind_eq_some_iff] at h
      obtain ⟨l, hl, h⟩ := h
      have hvs := evs_sound hρ hl
      cases l with
      | nil => cases h
      | cons x xs =>
        simp only at h
        simp only [CV.vals, Option.bind_eq_some_iff, Option.map_eq_some_iff] at hvs
        obtain ⟨x', hx', xs', hxs', e⟩ := hvs
        obtain ⟨v, hv, hr⟩ := foldO_sound (P := P) (w := w) (g := Builtin.min2) (fun _ _ _ _ _ hx hy hc => minC_sound hx hy hc) hx' hxs' h
        refine ⟨v, hv, ?_⟩
        have e' : (args.map ρ').toList = x' :: xs' := by rw [Array.toList_map]; exact e.symm
        simp only [resolve, invoke, builtin, Builtin.min_, e', Sem.run_bind, Sem.run_pure, Result.andThen_ok, hr]
    · cases h
end
end Go.K

namespace Go.K
set_option linter.unusedSimpArgs false
set_option linter.unusedVariables false

def Heap.skip (H : Heap) (n : Nat) : Heap := { H with next := H.next + n }
def Eta.ins (η : Eta) (b : Nat) (x : Loc) : Eta := fun k => if k = b then some x else η k
theorem Eta.ins_same (η : Eta) (b : Nat) (x : Loc) : η.ins b x b = some x := by simp [Eta.ins]
theorem Eta.ins_ne (η : Eta) {b k : Nat} (x : Loc) (h : k ≠ b) : η.ins b x k = η k := by simp [Eta.ins, h]
theorem Eta.le_ins {η : Eta} {b : Nat} {x : Loc} (h : η b = none) : η.le (η.ins b x) := by
  intro k y hk
  have : k ≠ b := fun e => by rw [e, h] at hk; cases hk
  rw [Eta.ins_ne _ _ this, hk]

theorem Heap.skip_get (H : Heap) (n k : Nat) : (H.skip n).get k = H.get k := rfl
theorem Heap.skip_mem (H : Heap) (n k : Nat) : (H.skip n).mem k = H.mem k := rfl
theorem HRel.skip {η : Eta} {H : Heap} {w : World} (h : HRel η H w) (n : Nat) : HRel η (H.skip n) w :=
  ⟨h.obj, fun b x e => Nat.lt_of_lt_of_le (h.dom b x e) (Nat.le_add_right _ _), h.inj, h.fam, fun b o f p e e' => Nat.lt_of_lt_of_le (h.famlt b o f p e e') (Nat.le_add_right _ _)⟩

/-- A known block that shares its place with no other is written anew. -/
theorem HRel.put0 {η : Eta} {H : Heap} {w w' : World} (h : HRel η H w) {b : Nat} {o o' : CObj} {x : Loc} (hb : H.get b = some o) (hx : η b = some x) (hf : o.fam = none) (hf' : o'.fam = none)
    (hw : ∀ k, k ≠ x.blk → w'.heap[k]? = w.heap[k]?) (ho : ORel η x w' o') : HRel η (H.put b o') w' where
  obj := by
    intro k ok hk
    rw [Heap.get_put] at hk
    split at hk
    · rename_i e; subst e; injection hk with hk; subst hk; exact ⟨x, hx, ho⟩
    · rename_i e
      obtain ⟨y, hy, ry⟩ := h.obj k ok hk
      refine ⟨y, hy, ry.mono η.le_refl (hw _ fun e' => ?_)⟩
      obtain ⟨f, p, p', h1, h2, _⟩ := h.inj k b ok o y x hk hb hy hx e' e
      rw [hf] at h2; cases h2
  dom := h.dom
  inj := by
    intro k k' ok ok' y y' hk hk' hy hy' e ne
    rw [Heap.get_put] at hk hk'
    split at hk <;> split at hk'
    · rename_i e1 e2; exact absurd (e1.trans e2.symm) ne
    · rename_i e1 e2; subst e1
      obtain ⟨f, p, p', h1, _⟩ := h.inj k k' o ok' y y' hb hk' hy hy' e ne
      rw [hf] at h1; cases h1
    · rename_i e1 e2; subst e2
      obtain ⟨f, p, p', _, h1, _⟩ := h.inj k k' ok o y y' hk hb hy hy' e ne
      rw [hf] at h1; cases h1
    · exact h.inj k k' ok ok' y y' hk hk' hy hy' e ne
  fam := by
    intro k ok f p hk e
    rw [Heap.get_put] at hk
    split at hk
    · injection hk with hk; subst hk; rw [hf'] at e; cases e
    · exact h.fam k ok f p hk e
  famlt := by
    intro k ok f p hk e
    rw [Heap.get_put] at hk
    split at hk
    · injection hk with hk; subst hk; rw [hf'] at e; cases e
    · exact h.famlt k ok f p hk e

/-- A block that is new in the world, at a number that was kept free. -/
theorem HRel.fill {η : Eta} {H : Heap} {w w' : World} (h : HRel η H w) {b : Nat} {o : CObj} {x : Loc} (hb : b < H.next) (hn : η b = none) (hf : o.fam = none) (hx : x.blk = w.heap.size)
    (hw : ∀ k, k < w.heap.size → w'.heap[k]? = w.heap[k]?) (ho : ORel (η.ins b x) x w' o) : HRel (η.ins b x) (H.put b o) w' where
  obj := by
    intro k ok hk
    rw [Heap.get_put] at hk
    split at hk
    · rename_i e; subst e; injection hk with hk; subst hk; exact ⟨x, Eta.ins_same .., ho⟩
    · rename_i e
      obtain ⟨y, hy, ry⟩ := h.obj k ok hk
      exact ⟨y, by rw [Eta.ins_ne _ _ e, hy], ry.mono (Eta.le_ins hn) (hw _ ry.lt)⟩
  dom := by
    intro k y hk
    by_cases e : k = b
    · subst e; exact hb
    · rw [Eta.ins_ne _ _ e] at hk; exact h.dom _ _ hk
  inj := by
    intro k k' ok ok' y y' hk hk' hy hy' e ne
    rw [Heap.get_put] at hk hk'
    have old : ∀ {k ok y}, H.get k = some ok → η k = some y → y.blk ≠ w.heap.size := by
      intro k ok y h1 h2 h3
      obtain ⟨z, hz, rz⟩ := h.obj k ok h1
      rw [h2] at hz; injection hz with hz; subst hz
      have := rz.lt; omega
    split at hk <;> split at hk'
    · rename_i e1 e2; exact absurd (e1.trans e2.symm) ne
    · rename_i e1 e2
      subst e1
      rw [Eta.ins_same] at hy; injection hy with hy; subst hy
      rw [Eta.ins_ne _ _ e2] at hy'
      exact absurd (e.symm.trans hx) (old hk' hy')
    · rename_i e1 e2
      subst e2
      rw [Eta.ins_same] at hy'; injection hy' with hy'; subst hy'
      rw [Eta.ins_ne _ _ e1] at hy
      exact absurd (e.trans hx) (old hk hy)
    · rename_i e1 e2
      rw [Eta.ins_ne _ _ e1] at hy
      rw [Eta.ins_ne _ _ e2] at hy'
      exact h.inj k k' ok ok' y y' hk hk' hy hy' e ne
  fam := by
    intro k ok f p hk e
    rw [Heap.get_put] at hk
    split at hk
    · injection hk with hk; subst hk; rw [hf] at e; cases e
    · exact h.fam k ok f p hk e
  famlt := by
    intro k ok f p hk e
    rw [Heap.get_put] at hk
    split at hk
    · injection hk with hk; subst hk; rw [hf] at e; cases e
    · exact h.famlt k ok f p hk e

/- families -/
def keepIn (H : Heap) (b pos k : Nat) : Bool :=
  Nat.beq k b || match H.get k with
    | some (.cells cs _ (some (_, p))) => Nat.ble (p + cs.length) pos
    | _ => true
def Heap.trim (H : Heap) (f b pos : Nat) : Heap :=
  { H with objs := (H.mem f).foldl (fun t k => match keepIn H b pos k with | true => t | false => t.del k) H.objs,
           fams := H.fams.set f ((H.mem f).filter (keepIn H b pos)) }

theorem foldl_del (keep : Nat → Bool) (k : Nat) : ∀ (l : List Nat) (t : Tr CObj),
    (l.foldl (fun t k => match keep k with | true => t | false => t.del k) t).get k = if k ∈ l ∧ keep k = false then none else t.get k
  | [], t => by simp
  | a :: l, t => by
    simp only [List.foldl_cons]
    rw [foldl_del keep k l]
    by_cases hk : keep k = false
    · by_cases hl : k ∈ l
      · simp [hk, hl]
      · by_cases e : k = a
        · subst e; simp [hk, hl, Tr.get_del]
        · cases ha : keep a <;> simp [hk, hl, e, Tr.get_del]
    · cases ha : keep a with
      | true => simp [hk]
      | false =>
        have : k ≠ a := fun e => hk (e ▸ ha)
        simp [hk, Tr.get_del, this]

theorem Heap.trim_get (H : Heap) (f b pos k : Nat) : (H.trim f b pos).get k = if k ∈ H.mem f ∧ keepIn H b pos k = false then none else H.get k :=
  foldl_del _ _ _ _
theorem Heap.trim_mem (H : Heap) (f b pos g : Nat) : (H.trim f b pos).mem g = if g = f then (H.mem f).filter (keepIn H b pos) else H.mem g := by
  simp only [Heap.trim, Heap.mem, Tr.get_set]
  split <;> simp

/-- The cells of a block are written anew from a position on; of its family stays what ends before. -/
def Heap.upd (H : Heap) (b : Nat) (o : CObj) (pos : Nat) : Heap :=
  match o.fam with
  | none => H.put b o
  | some (f, p) => (H.trim f b (p + pos)).put b o

theorem Heap.upd_next (H : Heap) (b : Nat) (o : CObj) (pos : Nat) : (H.upd b o pos).next = H.next := by
  unfold Heap.upd; split <;> rfl

theorem HRel.upd {η : Eta} {H : Heap} {w w' : World} (h : HRel η H w) {b : Nat} {cs cs' : List CV} {e : TypeId} {fm : Option (Nat × Nat)} {x : Loc} {pos : Nat}
    (hb : H.get b = some (.cells cs e fm)) (hx : η b = some x) (hw : ∀ k, k ≠ x.blk → w'.heap[k]? = w.heap[k]?)
    (hc : ∃ (L L' : List Value) (fr : Nat × Nat), w.heap[x.blk]? = some (.cells L.toArray e fr) ∧ w'.heap[x.blk]? = some (.cells L'.toArray e fr) ∧ L'.length = L.length ∧ L'.take (x.base + pos) = L.take (x.base + pos))
    (ho : ORel η x w' (.cells cs' e fm)) : HRel η (H.upd b (.cells cs' e fm) pos) w' := by
  cases fm with
  | none => exact h.put0 hb hx rfl rfl hw ho
  | some fp =>
    obtain ⟨f, p⟩ := fp
    show HRel η ((H.trim f b (p + pos)).put b (.cells cs' e (some (f, p)))) w'
    have get_old : ∀ {k ok}, (H.trim f b (p + pos)).get k = some ok → H.get k = some ok ∧ (k ∈ H.mem f → keepIn H b (p + pos) k = true) := by
      intro k ok hk
      rw [Heap.trim_get] at hk
      split at hk
      · cases hk
      · rename_i hn
        refine ⟨hk, fun hm => ?_⟩
        cases hkeep : keepIn H b (p + pos) k with
        | true => rfl
        | false => exact absurd ⟨hm, hkeep⟩ hn
    constructor
    · intro k ok hk
      rw [Heap.get_put] at hk
      split at hk
      · rename_i ek; subst ek; injection hk with hk; subst hk; exact ⟨x, hx, ho⟩
      · rename_i ek
        obtain ⟨hk, hkeep⟩ := get_old hk
        obtain ⟨y, hy, ry⟩ := h.obj k ok hk
        refine ⟨y, hy, ?_⟩
        by_cases eb : y.blk = x.blk
        · obtain ⟨g, q, q', h1, h2, h3⟩ := h.inj k b ok _ y x hk hb hy hx eb ek
          simp only [CObj.fam, Option.some.injEq, Prod.mk.injEq] at h2
          obtain ⟨rfl, rfl⟩ := h2
          have hkp := hkeep (h.fam k ok f q hk h1)
          cases ok with
          | cells ck ek' fk =>
            simp only [CObj.fam] at h1; subst h1
            simp only [keepIn, hk, Bool.or_eq_true] at hkp
            have hle : q + ck.length ≤ p + pos := by
              rcases hkp with hkp | hkp
              · exact absurd (Nat.eq_of_beq_eq_true hkp) ek
              · exact Nat.le_of_ble_eq_true hkp
            obtain ⟨pre, l, rest, fr, h1, h2', h3', h4, _, h6⟩ := ry
            obtain ⟨L, L', fr', hL, hL', hlen, htake⟩ := hc
            rw [eb, hL] at h2'
            simp only [Option.some.injEq, Obj.cells.injEq] at h2'
            obtain ⟨e1, e2, e3⟩ := h2'
            have e1' : L = pre ++ l ++ rest := by simpa using e1
            have hl := CV.vals_length h1
            have hn : pre.length + l.length ≤ x.base + pos := by omega
            have hsplit : L' = pre ++ l ++ L'.drop (pre.length + l.length) := by
              have t1 : L'.take (pre.length + l.length) = L.take (pre.length + l.length) := by
                have := congrArg (List.take (pre.length + l.length)) htake
                simpa [List.take_take, Nat.min_eq_left hn] using this
              have t2 : L.take (pre.length + l.length) = pre ++ l := by
                rw [e1', List.take_left' (by simp)]
              conv => lhs; rw [← List.take_append_drop (pre.length + l.length) L']
              rw [t1, t2]
            refine ⟨pre, l, L'.drop (pre.length + l.length), fr, h1, ?_, h3', ?_, by simp, ?_⟩
            · rw [eb, hL', ← hsplit, e3, e2]
            · have hl1 := congrArg List.length e1'
              simp only [List.length_append, List.length_drop] at hl1 h4 ⊢; omega
            · rw [← hsplit, hlen, e1']; exact h6
          | map es ck => simp [CObj.fam] at h1
          | mapIter m s se st => simp [CObj.fam] at h1
          | strIter s ps => simp [CObj.fam] at h1
          | look s => simp [CObj.fam] at h1
        · exact ry.mono η.le_refl (hw _ eb)
    · exact h.dom
    · intro k k' ok ok' y y' hk hk' hy hy' eb ne
      rw [Heap.get_put] at hk hk'
      split at hk <;> split at hk'
      · rename_i e1 e2; exact absurd (e1.trans e2.symm) ne
      · rename_i e1 e2; subst e1; injection hk with hk; subst hk
        exact h.inj k k' (.cells cs e (some (f, p))) ok' y y' hb (get_old hk').1 hy hy' eb ne
      · rename_i e1 e2; subst e2; injection hk' with hk'; subst hk'
        exact h.inj k k' ok (.cells cs e (some (f, p))) y y' (get_old hk).1 hb hy hy' eb ne
      · exact h.inj k k' ok ok' y y' (get_old hk).1 (get_old hk').1 hy hy' eb ne
    · intro k ok g q hk eg
      show k ∈ (H.trim f b (p + pos)).mem g
      rw [Heap.trim_mem]
      rw [Heap.get_put] at hk
      split at hk
      · rename_i ek; subst ek; injection hk with hk; subst hk
        simp only [CObj.fam, Option.some.injEq, Prod.mk.injEq] at eg
        obtain ⟨rfl, rfl⟩ := eg
        simp only [if_true, List.mem_filter]
        exact ⟨h.fam k _ f p hb rfl, by simp [keepIn]⟩
      · obtain ⟨hk', hkeep⟩ := get_old hk
        have hm := h.fam k ok g q hk' eg
        split
        · rename_i e'; subst e'; exact List.mem_filter.2 ⟨hm, hkeep hm⟩
        · exact hm
    · intro k ok g q hk eg
      rw [Heap.get_put] at hk
      split at hk
      · injection hk with hk; subst hk; exact h.famlt b _ g q hb eg
      · exact h.famlt k ok g q (get_old hk).1 eg

/-- A new block that may share a place with its family. -/
def Heap.newF (H : Heap) (o : CObj) : Heap :=
  { next := H.next + 1, objs := H.objs.set H.next o,
    fams := match o.fam with
      | none => H.fams
      | some (f, _) => H.fams.set f (H.mem f ++ [H.next]) }
theorem Heap.newF_get (H : Heap) (o : CObj) (k : Nat) : (H.newF o).get k = if k = H.next then some o else H.get k := Tr.get_set ..
theorem Heap.newF_mem (H : Heap) (o : CObj) (g : Nat) : H.mem g ⊆ (H.newF o).mem g := by
  intro k hk
  unfold Heap.newF Heap.mem
  split
  · exact hk
  · rename_i f p _
    simp only [Tr.get_set]
    split
    · rename_i e; subst e; simp only [Option.getD_some, List.mem_append]; exact .inl hk
    · exact hk

theorem HRel.newF {η : Eta} {H : Heap} {w w' : World} (h : HRel η H w) {o : CObj} {x : Loc}
    (old : ∀ k ok y, H.get k = some ok → η k = some y → ORel η y w ok → ORel η y w' ok) (ho : ORel (η.ins H.next x) x w' o)
    (share : ∀ k ok y, H.get k = some ok → η k = some y → y.blk = x.blk → ∃ f p p', ok.fam = some (f, p') ∧ o.fam = some (f, p) ∧ x.base + p' = y.base + p)
    (flt : ∀ f p, o.fam = some (f, p) → f ≤ H.next) : HRel (η.ins H.next x) (H.newF o) w' := by
  have hn : η H.next = none := by
    cases e : η H.next with
    | none => rfl
    | some y => exact absurd (h.dom _ _ e) (Nat.lt_irrefl _)
  constructor
  · intro k ok hk
    rw [Heap.newF_get] at hk
    split at hk
    · rename_i e; subst e; injection hk with hk; subst hk; exact ⟨x, Eta.ins_same .., ho⟩
    · rename_i e
      obtain ⟨y, hy, ry⟩ := h.obj k ok hk
      exact ⟨y, by rw [Eta.ins_ne _ _ e, hy], (old k ok y hk hy ry).mono (Eta.le_ins hn) rfl⟩
  · intro k y hk
    show k < H.next + 1
    by_cases e : k = H.next
    · omega
    · rw [Eta.ins_ne _ _ e] at hk; have := h.dom _ _ hk; omega
  · intro k k' ok ok' y y' hk hk' hy hy' eb ne
    rw [Heap.newF_get] at hk hk'
    split at hk <;> split at hk'
    · rename_i e1 e2; exact absurd (e1.trans e2.symm) ne
    · rename_i e1 e2; subst e1; injection hk with hk; subst hk
      rw [Eta.ins_same] at hy; injection hy with hy; subst hy
      rw [Eta.ins_ne _ _ e2] at hy'
      obtain ⟨f, p, p', h1, h2, h3⟩ := share k' ok' y' hk' hy' eb.symm
      exact ⟨f, p, p', h2, h1, h3⟩
    · rename_i e1 e2; subst e2; injection hk' with hk'; subst hk'
      rw [Eta.ins_same] at hy'; injection hy' with hy'; subst hy'
      rw [Eta.ins_ne _ _ e1] at hy
      obtain ⟨f, p, p', h1, h2, h3⟩ := share k ok y hk hy eb
      exact ⟨f, p', p, h1, h2, h3.symm⟩
    · rename_i e1 e2
      rw [Eta.ins_ne _ _ e1] at hy
      rw [Eta.ins_ne _ _ e2] at hy'
      exact h.inj k k' ok ok' y y' hk hk' hy hy' eb ne
  · intro k ok f p hk ef
    rw [Heap.newF_get] at hk
    split at hk
    · rename_i e; subst e; injection hk with hk; subst hk
      simp [Heap.newF, Heap.mem, ef, Tr.get_set]
    · exact Heap.newF_mem _ _ _ (h.fam k ok f p hk ef)
  · intro k ok f p hk ef
    show f < H.next + 1
    rw [Heap.newF_get] at hk
    split at hk
    · injection hk with hk; subst hk; have := flt f p ef; omega
    · have := h.famlt k ok f p hk ef; omega

end Go.K

namespace Go.K
set_option linter.unusedSimpArgs false
set_option linter.unusedVariables false

def rep (n : Nat) (z : List CV) : List CV := match n with
  | 0 => []
  | n + 1 => z ++ rep n z
def zerosC (P : Program) (e : TypeId) (sz n : Nat) : Option (List CV) :=
  match n with
  | 0 => some []
  | _ + 1 => (zeroC P e).bind fun z => match Nat.beq z.length sz with
    | true => some (rep n z)
    | false => none

def allocC (P : Program) (op : Op) (ρ : Operand → Option CV) : Option (CObj × (Nat → CV)) :=
  match op with
  | .alloc t => (zeroC P t).map fun z => (.cells z t none, fun b => .ptr b 0)
  | .box t x => (ρ x).map fun v => (.cells v.cells t none, fun b => .ptr b 0)
  | .buildSlice t len ps => match P.underlying t with
    | some (.slice e) => (szC P e).bind fun sz => match sz with
      | 0 => none
      | sz' + 1 => match Nat.ble (len * (sz' + 1)) 16777216 with
        | true => (zerosC P e (sz' + 1) len).bind fun cells => (evParts ρ ps).bind fun ps => (fillC (fun i => some (i * (sz' + 1), sz' + 1)) cells ps).map fun cs =>
          (.cells cs e none, fun b => .slice b 0 len (.exact len))
        | false => none
    | _ => none
  | .makeMap _ none => some (.map [] 0, fun b => .map b)
  | .makeSlice t l c => match P.underlying t, ρ l, ρ c with
    | some (.slice e), some (.int .i64 (.ofNat len)), some (.int .i64 (.ofNat cap)) => match P.info? e with
      | some i => match i.size with
        | 0 => none
        | sz' + 1 => match Nat.ble len cap && Nat.ble cap 140737488355328 && Nat.ble (i.bytes * cap) 140737488355328 with
          | true => (zerosC P e (sz' + 1) cap).map fun cells => (.cells cells e none, fun b => .slice b 0 len (.exact cap))
          | false => none
      | none => none
    | _, _, _ => none
  | _ => none

section
variable {P : Program} {η : Eta} {H : Heap} {w : World}

def pushed (w : World) (o : Obj) : World := { w with heap := w.heap.push o }
theorem pushed_lt (w : World) (o : Obj) {k : Nat} (h : k < w.heap.size) : (pushed w o).heap[k]? = w.heap[k]? := by
  simp only [pushed, Array.getElem?_push]; rw [if_neg (by omega)]
theorem pushed_size (w : World) (o : Obj) : (pushed w o).heap[w.heap.size]? = some o := by
  show (w.heap.push o)[w.heap.size]? = some o
  exact Array.getElem?_push_size

theorem thaw_zero (n : Nat) : thaw (0, 0) n := by intro i _; simp

theorem cells_pushed {η : Eta} {cs : List CV} {l : List Value} {e : TypeId} (hl : CV.vals η cs = some l) (w : World) :
    ORel η ⟨w.heap.size, 0, l.length⟩ (pushed w (.cells l.toArray e)) (.cells cs e none) :=
  ⟨[], l, [], (0, 0), hl, by simp [pushed_size], rfl, by simp, by simp, thaw_zero _⟩

def Alloced (P : Program) (η : Eta) (w : World) (r : Result Next) (b : Nat) (o : CObj) (c : CV) : Prop :=
  ∃ obj v x, r = .ok (.value v) (pushed w obj) ∧ x.blk = w.heap.size ∧ c.val (η.ins b x) = some v ∧ ORel (η.ins b x) x (pushed w obj) o ∧ o.fam = none

theorem rep_vals {z : List CV} {l : List Value} (h : CV.vals η z = some l) : ∀ n, ∃ m, CV.vals η (rep n z) = some m ∧ m.length = n * l.length ∧ ∀ i, i < n * l.length → m[i]? = l[i % l.length]?
  | 0 => ⟨[], rfl, by simp, by simp⟩
  | n + 1 => by
    obtain ⟨m, hm, hl, hi⟩ := rep_vals h n
    refine ⟨l ++ m, CV.vals_append h hm, by simp [hl, Nat.succ_mul]; omega, fun i hlt => ?_⟩
    rw [Nat.succ_mul] at hlt
    by_cases e : i < l.length
    · rw [List.getElem?_append_left e, Nat.mod_eq_of_lt e]
    · rw [List.getElem?_append_right (by omega), hi _ (by omega), Nat.mod_eq_sub_mod (by omega : l.length ≤ i)]

theorem range_map_eq {m : List Value} {n : Nat} {z : Array Value} (hl : m.length = n) (hi : ∀ i, i < n → m[i]? = z.toList[i % z.size]?) (hz : n = 0 ∨ 0 < z.size) :
    (Array.range n).map (fun i => z[i % z.size]!) = m.toArray := by
  apply Array.ext_getElem?
  intro i
  by_cases h : i < n
  · have hz' : 0 < z.size := by omega
    have hmod := Nat.mod_lt i hz'
    simp only [Array.getElem?_map, Array.getElem?_range, h, if_true, Option.map_some, List.getElem?_toArray, hi i h]
    rw [getElem!_pos z (i % z.size) hmod, List.getElem?_eq_getElem (by simpa using hmod)]
    simp
  · simp only [Array.getElem?_map]
    rw [Array.getElem?_eq_none (by simp; omega), List.getElem?_toArray, List.getElem?_eq_none (by omega)]
    rfl

theorem zerosC_sound {e : TypeId} {sz n : Nat} {cells : List CV} (h : zerosC P e sz n = some cells) (hsz : 0 < sz) :
    ∃ m, CV.vals η cells = some m ∧ m.length = n * sz ∧ ((n * sz = 0 ∧ m = []) ∨ (n * sz ≠ 0 ∧ ∃ v, (zeroValue e).run P w = .ok v w ∧
      (Array.range (n * sz)).map (fun i => v.cells[i % v.cells.size]!) = m.toArray)) := by
  cases n with
  | zero => simp [zerosC] at h; subst h; exact ⟨[], rfl, by simp, .inl (by simp)⟩
  | succ n =>
    simp only [zerosC, Option.bind_eq_some_iff] at h
    obtain ⟨z, hz, h⟩ := h
    split at h
    · rename_i hlen
      have hlen' := Nat.eq_of_beq_eq_true hlen
      injection h with h; subst h
      obtain ⟨v, hv, hvs⟩ := zeroC_sound (η := η) (w := w) hz
      have hl := CV.vals_length hvs
      have hne : ¬ (n + 1) * sz = 0 := Nat.mul_ne_zero (by omega) (by omega)
      obtain ⟨m, hm, hml, hmi⟩ := rep_vals hvs (n + 1)
      have hvl : v.cells.size = sz := by rw [← Array.length_toList, hl, hlen']
      refine ⟨m, hm, by rw [hml, Array.length_toList, hvl], .inr ⟨hne, v, hv, ?_⟩⟩
      refine range_map_eq (by rw [hml, Array.length_toList, hvl]) (fun i hi => ?_) (.inr (by omega))
      rw [hmi i (by rw [Array.length_toList, hvl]; exact hi), Array.length_toList]
    · cases h

theorem alloc_sound (hH : HRel η H w) {ρ : Operand → Option CV} {ρ' : Operand → Value} (hρ : ∀ x c, ρ x = some c → c.val η = some (ρ' x)) (o : Oper) {b : Nat} {co : CObj} {f : Nat → CV} (hn : η b = none)
    (h : allocC P o.op ρ = some (co, f)) : Alloced P η w ((execOp ρ' o).run P w) b co (f b) := by
  obtain ⟨dst, op, type, pos, after, guard⟩ := o
  have mono : ∀ {x : Loc} {cs : List CV} {l : List Value}, CV.vals η cs = some l → CV.vals (η.ins b x) cs = some l := fun h => CV.vals_mono (Eta.le_ins hn) _ _ h
  cases op <;> simp only [allocC] at h <;> simp only [execOp] <;> try (cases h; done)
  case alloc t =>
    simp only [Option.map_eq_some_iff, Prod.mk.injEq] at h
    obtain ⟨z, hz, rfl, rfl⟩ := h
    obtain ⟨v, hv, hvs⟩ := zeroC_sound (η := η) (w := w) hz
    refine ⟨.cells v.cells t, .pointer (some ⟨w.heap.size, 0, none⟩), ⟨w.heap.size, 0, v.cells.toList.length⟩, ?_, rfl, ?_, ?_, rfl⟩
    · simp only [Instr.alloc, Sem.run_bind, hv, Result.andThen_ok, newVar, newRow, run_newObj, Sem.run_pure]; rfl
    · simp [CV.val, Eta.ins_same]
    · have := cells_pushed (e := t) (mono (x := ⟨w.heap.size, 0, v.cells.toList.length⟩) hvs) w
      simpa using this
  case box t x =>
    simp only [Option.map_eq_some_iff, Prod.mk.injEq] at h
    obtain ⟨c, hc, rfl, rfl⟩ := h
    have hvs := CV.cells_val (hρ _ _ hc)
    refine ⟨.cells (ρ' x).cells t, .pointer (some ⟨w.heap.size, 0, none⟩), ⟨w.heap.size, 0, (ρ' x).cells.toList.length⟩, ?_, rfl, ?_, ?_, rfl⟩
    · simp only [Instr.box, Sem.run_bind, Result.andThen_ok, newVar, newRow, run_newObj, Sem.run_pure]; rfl
    · simp [CV.val, Eta.ins_same]
    · have := cells_pushed (e := t) (mono (x := ⟨w.heap.size, 0, (ρ' x).cells.toList.length⟩) hvs) w
      simpa using this
  case buildSlice t len ps =>
    split at h
    · rename_i e hu
      simp only [Option.bind_eq_some_iff] at h
      obtain ⟨sz, hsz, h⟩ := h
      split at h
      · cases h
      · rename_i sz
        split at h
        · rename_i hle
          have hle' := Nat.le_of_ble_eq_true hle
          simp only [Option.bind_eq_some_iff, Option.map_eq_some_iff, Prod.mk.injEq] at h
          obtain ⟨cells, hcells, ps', hps, cs, hcs, rfl, rfl⟩ := h
          obtain ⟨m, hm, hml, hcase⟩ := zerosC_sound (η := η) (w := w) hcells (Nat.succ_pos sz)
          obtain ⟨l, hl, hfill⟩ := fillC_sound (evParts_sound hρ hps) hm hcs
          refine ⟨.cells l.toArray e, .slice (some ⟨w.heap.size, 0, none⟩) len len, ⟨w.heap.size, 0, l.length⟩, ?_, rfl, ?_, cells_pushed (mono hl) w, rfl⟩
          · have hparts : (ps.map fun x => (x.1, ρ' x.2)).toList = ps.toList.map fun p => (p.1, ρ' p.2) := by simp
            have hszr : (sizeOf e).run P w = .ok (sz + 1) w := szC_sound hsz
            have hnot : ¬ len * (sz + 1) > 2 ^ 24 := by omega
            simp only [Instr.buildSlice, Sem.run_bind, und_run hu, Result.andThen_ok, hszr, hnot, if_false, Sem.run_pure, hparts]
            rcases hcase with ⟨hz, rfl⟩ | ⟨hz, v, hv, hmap⟩
            · simp only [hz, if_true, Sem.run_bind, Sem.run_pure, Result.andThen_ok]
              have : (Array.range 0).map (fun x => (#[] : Array Value)[x % (#[] : Array Value).size]!) = ([] : List Value).toArray := by simp
              rw [this, hfill]
              simp only [Sem.run_bind, newRow, run_newObj, Result.andThen_ok, Sem.run_pure]
              rfl
            · simp only [hz, if_false, Sem.run_bind, Sem.run_pure, Result.andThen_ok, hv]
              rw [hmap, hfill]
              simp only [Sem.run_bind, newRow, run_newObj, Result.andThen_ok, Sem.run_pure]
              rfl
          · simp [CV.val, Eta.ins_same]
        · cases h
    · cases h
  case makeMap t r =>
    cases r with
    | some _ => cases h
    | none =>
      simp only [Option.some.injEq, Prod.mk.injEq] at h
      obtain ⟨rfl, rfl⟩ := h
      refine ⟨.map #[] 0, .map (some w.heap.size), ⟨w.heap.size, 0, 0⟩, ?_, rfl, ?_, ⟨[], rfl, by simp [pushed_size]⟩, rfl⟩
      · simp only [Instr.makeMap, Option.map_none, Sem.run_bind, Result.andThen_ok, run_newObj, Sem.run_pure]; rfl
      · simp [CV.val, Eta.ins_same]
  case makeSlice t lo co' =>
    split at h
    · rename_i e len cap hu hlo hco
      split at h
      · rename_i i hi
        split at h
        · cases h
        · rename_i sz hisz
          split at h
          · rename_i hle
            simp only [Bool.and_eq_true] at hle
            have h1 := Nat.le_of_ble_eq_true hle.1.1
            have h2 := Nat.le_of_ble_eq_true hle.1.2
            have h3 := Nat.le_of_ble_eq_true hle.2
            simp only [Option.map_eq_some_iff, Prod.mk.injEq] at h
            obtain ⟨cells, hcells, rfl, rfl⟩ := h
            obtain ⟨m, hm, hml, hcase⟩ := zerosC_sound (η := η) (w := w) hcells (Nat.succ_pos sz)
            refine ⟨.cells m.toArray e, .slice (some ⟨w.heap.size, 0, none⟩) len cap, ⟨w.heap.size, 0, m.length⟩, ?_, rfl, ?_, cells_pushed (mono hm) w, rfl⟩
            · rw [val_int (hρ _ _ hlo), val_int (hρ _ _ hco)]
              have wl : IntKind.i64.wrap (Int.ofNat len) = Int.ofNat len := by
                have : (Int.ofNat len) = (len : Int) := rfl
                simp [IntKind.wrap, IntKind.bits, IntKind.signed]; omega
              have wc : IntKind.i64.wrap (Int.ofNat cap) = Int.ofNat cap := by
                have : (Int.ofNat cap) = (cap : Int) := rfl
                simp [IntKind.wrap, IntKind.bits, IntKind.signed]; omega
              have hb : ((i.bytes : Int) * Int.ofNat cap) ≤ 140737488355328 := by
                show ((i.bytes : Int) * (cap : Int)) ≤ 140737488355328
                rw [← Int.natCast_mul]; omega
              have c0 : ¬ (Int.ofNat cap) < 0 := by have : (Int.ofNat cap) = (cap : Int) := rfl; omega
              have l0 : ¬ (Int.ofNat len) < 0 := by have : (Int.ofNat len) = (len : Int) := rfl; omega
              have lc : ¬ (Int.ofNat len) > (Int.ofNat cap) := by have : (Int.ofNat len) = (len : Int) := rfl; have : (Int.ofNat cap) = (cap : Int) := rfl; omega
              have tl : ¬ ((i.bytes : Int) * Int.ofNat cap > 2 ^ 48) := by omega
              have hsize : (sizeOf e).run P w = .ok (sz + 1) w := by simp [sizeOf, typeInfo, hi, hisz]
              simp only [Instr.makeSlice, Sem.run_bind, und_run hu, Result.andThen_ok, asInt, asIntOf, Sem.run_pure, typeInfo, run_program, hi, wl, wc]
              have cond : (decide (Int.ofNat cap < 0) || decide ((i.bytes : Int) * Int.ofNat cap > 2 ^ 48) || decide (Int.ofNat len < 0) || decide (Int.ofNat len > Int.ofNat cap)) = false := by
                simp only [c0, l0, lc, tl, decide_false, Bool.or_self]
              simp only [cond, Bool.false_eq_true, if_false, Sem.run_bind, run_askRoom, Result.andThen_ok, hsize, Sem.run_pure]
              have ecap : (Int.ofNat cap).toNat = cap := rfl
              rw [ecap]
              rcases hcase with ⟨hz, rfl⟩ | ⟨hz, v, hv, hmap⟩
              · simp only [hz, if_true, Sem.run_bind, Sem.run_pure, Result.andThen_ok]
                have : (Array.range 0).map (fun x => (#[] : Array Value)[x % (#[] : Array Value).size]!) = ([] : List Value).toArray := by simp
                rw [this]
                simp only [Sem.run_bind, newRow, run_newObj, Result.andThen_ok, Sem.run_pure]
                rfl
              · simp only [hz, if_false, Sem.run_bind, Sem.run_pure, Result.andThen_ok, hv]
                rw [hmap]
                simp only [Sem.run_bind, newRow, run_newObj, Result.andThen_ok, Sem.run_pure]
                rfl
            · simp [CV.val, Eta.ins_same]
          · cases h
      · cases h
    · cases h

end
end Go.K
