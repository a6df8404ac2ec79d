/- Clean operations that leave memory alone give what the model's give. Clean operations that leave memory alone, the rest; and one theorem for all of them. The rest of the quiet operations; one theorem for all of them. -/
import Derived.Test.YtmnhkbhdfkebmaaGreatK1

set_option linter.unusedSimpArgs false
set_option linter.unusedVariables false

namespace Go.K
set_option linter.unusedSimpArgs false
set_option linter.unusedVariables false
section
variable {P : Program} {η : Eta} {H : Heap} {w : World}

theorem isAggC_sound {t : TypeId} {b : Bool} (h : isAggC P t = some b) : (isAgg t).run P w = .ok b w := by
  unfold isAggC at h
  split at h
  · rename_i hu; injection h with h; subst h; simp [isAgg, underlying, hu]
  · rename_i hu; injection h with h; subst h; simp [isAgg, underlying, hu]
  · rename_i d h1 h2 hu
    injection h with h; subst h
    simp only [isAgg, underlying, Sem.run_bind, run_program, Result.andThen_ok, hu, Sem.run_pure]
  · cases h

theorem szC_sound {t : TypeId} {n : Nat} (h : szC P t = some n) : (sizeOf t).run P w = .ok n w := by
  simp only [szC, Option.map_eq_some_iff] at h
  obtain ⟨i, hi, rfl⟩ := h
  simp [sizeOf, typeInfo, hi]

theorem und_run {t : TypeId} {d : TypeDesc} (h : P.underlying t = some d) : (underlying t).run P w = .ok d w := by simp [underlying, h]

/-- The cells of a clean block are there. -/
theorem cells_there (hH : HRel η H w) {b : Nat} {cs : List CV} {e : TypeId} {f : Option (Nat × Nat)} (hb : H.get b = some (.cells cs e f)) :
    ∃ x l, η b = some x ∧ CV.vals η cs = some l ∧ cs.length ≤ x.m ∧ ∀ i v, l[i]? = some v → w.cell? ⟨x.blk, x.base + i, none⟩ = some v := by
  obtain ⟨x, hx, pre, l, rest, fr, hl, hw, hpre, hlen, _, _⟩ := hH.obj _ _ hb
  refine ⟨x, l, hx, hl, ?_, ?_⟩
  · rw [← hlen, ← CV.vals_length hl]; simp
  · intro i v hi
    have hlt := (List.getElem?_eq_some_iff.1 hi).1
    simp only [World.cell?, hw]
    simp only [Option.isSome_none, Bool.false_eq_true, if_false, List.getElem?_toArray]
    rw [List.append_assoc, List.getElem?_append_right (by omega), show x.base + i - pre.length = i by omega, List.getElem?_append_left hlt, hi]

theorem Addr.add_mk (b o n : Nat) : (⟨b, o, none⟩ : Addr).add n = ⟨b, o + n, none⟩ := by
  unfold Addr.add; split
  · rename_i h; simp [h]
  · rfl

theorem loadCellsFrom_run (a : Addr) : ∀ (n i : Nat) (acc : Array Value) (l : List Value), l.length = n → (∀ j v, l[j]? = some v → w.cell? (a.add (i + j)) = some v) →
    (loadCellsFrom a i n acc).run P w = .ok (acc ++ l.toArray) w
  | 0, i, acc, l, hl, h => by
    have : l = [] := List.length_eq_zero_iff.1 hl
    subst this; simp [loadCellsFrom]
  | n + 1, i, acc, l, hl, h => by
    cases l with
    | nil => simp at hl
    | cons v l =>
      have h0 := h 0 v (by simp)
      simp only [loadCellsFrom, Sem.run_bind, run_load]
      simp only [Nat.add_zero] at h0
      rw [h0]
      simp only [Result.andThen_ok]
      rw [loadCellsFrom_run a n (i + 1) (acc.push v) l (by simpa using hl) (fun j u hj => by
        have := h (j + 1) u (by simpa using hj)
        rw [show i + 1 + j = i + (j + 1) by omega]; exact this)]
      simp

theorem loadCells_run {b o n : Nat} {l : List Value} (hl : l.length = n) (h : ∀ j v, l[j]? = some v → w.cell? ⟨b, o + j, none⟩ = some v) :
    (loadCells ⟨b, o, none⟩ n).run P w = .ok l.toArray w := by
  unfold loadCells
  rw [loadCellsFrom_run ⟨b, o, none⟩ n 0 #[] l hl (fun j v hj => by rw [Addr.add_mk, Nat.zero_add]; exact h j v hj)]
  simp

theorem look_there (hH : HRel η H w) {b : Nat} {cs : List CV} (hb : H.get b = some (.look cs)) :
    ∃ x l, η b = some x ∧ CV.vals η cs = some l ∧ ∀ i v, l[i]? = some v → w.cell? ⟨x.blk, x.base + i, none⟩ = some v := by
  obtain ⟨x, hx, pre, l, rest, el, fr, hl, hw, hpre⟩ := hH.obj _ _ hb
  refine ⟨x, l, hx, hl, ?_⟩
  intro i v hi
  have hlt := (List.getElem?_eq_some_iff.1 hi).1
  simp only [World.cell?, hw]
  simp only [Option.isSome_none, Bool.false_eq_true, if_false, List.getElem?_toArray]
  rw [List.append_assoc, List.getElem?_append_right (by omega), show x.base + i - pre.length = i by omega, List.getElem?_append_left hlt, hi]

theorem load_there {t : TypeId} {off : Nat} {c : CV} {x : Loc} {cs : List CV} {l : List Value} (hl : CV.vals η cs = some l) (hc : ∀ i v, l[i]? = some v → w.cell? ⟨x.blk, x.base + i, none⟩ = some v)
    (h : (match isAggC P t with
      | some true => match szC P t with
        | some n => (takeE n (cs.drop off)).map .agg
        | none => none
      | some false => cs[off]?
      | none => none) = some c) : ∃ v, c.val η = some v ∧ (loadVar t ⟨x.blk, x.base + off, none⟩).run P w = .ok v w := by
  split at h
  · rename_i ha
    split at h
    · rename_i n hn
      simp only [Option.map_eq_some_iff] at h
      obtain ⟨r, hr, rfl⟩ := h
      obtain ⟨rfl, hle⟩ := takeE_eq hr
      have hv := CV.vals_take n (CV.vals_drop off hl)
      refine ⟨.agg ((l.drop off).take n).toArray, by simp [CV.val, hv], ?_⟩
      simp only [loadVar, Sem.run_bind, isAggC_sound ha, szC_sound hn, Result.andThen_ok, if_true]
      rw [loadCells_run (l := (l.drop off).take n) (by have := CV.vals_length hl; simp at hle ⊢; omega) (fun j v hj => by
        rw [List.getElem?_take] at hj
        split at hj
        · rw [List.getElem?_drop] at hj; rw [Nat.add_assoc]; exact hc _ _ hj
        · cases hj)]
      simp
    · cases h
  · rename_i ha
    obtain ⟨v, hv, hv'⟩ := CV.vals_get hl h
    refine ⟨v, hv, ?_⟩
    simp only [loadVar, Sem.run_bind, isAggC_sound ha, Result.andThen_ok, Bool.false_eq_true, if_false, run_load, hc _ _ hv']
  · cases h

theorem loadC_sound (hH : HRel η H w) {t : TypeId} {b off : Nat} {c : CV} {x : Loc} (hx : η b = some x) (h : loadC P t H b off = some c) :
    ∃ v, c.val η = some v ∧ (loadVar t ⟨x.blk, x.base + off, none⟩).run P w = .ok v w := by
  unfold loadC at h
  split at h
  · rename_i cs e f hb
    obtain ⟨y, l, hy, hl, _, hc⟩ := cells_there hH hb
    rw [hx] at hy; injection hy with hy; subst hy
    exact load_there hl hc h
  · rename_i cs hb
    obtain ⟨y, l, hy, hl, hc⟩ := look_there hH hb
    rw [hx] at hy; injection hy with hy; subst hy
    exact load_there hl hc h
  · cases h

theorem val_int {k : IntKind} {n : Int} {v : Value} (h : (CV.int k n).val η = some v) : v = .int k n := by simp [CV.val] at h; exact h.symm
theorem val_bool {b : Bool} {v : Value} (h : (CV.bool b).val η = some v) : v = .bool b := by simp [CV.val] at h; exact h.symm
theorem val_str {s : ByteArray} {v : Value} (h : (CV.str s).val η = some v) : v = .string s := by simp [CV.val] at h; exact h.symm
theorem val_ptr {b off : Nat} {v : Value} (h : (CV.ptr b off).val η = some v) : ∃ x, η b = some x ∧ v = .pointer (some ⟨x.blk, x.base + off, none⟩) := by
  simp only [CV.val, Option.map_eq_some_iff] at h
  obtain ⟨x, hx, rfl⟩ := h
  exact ⟨x, hx, rfl⟩
theorem val_map {b : Nat} {v : Value} (h : (CV.map b).val η = some v) : ∃ x, η b = some x ∧ v = .map (some x.blk) := by
  simp only [CV.val, Option.map_eq_some_iff] at h
  obtain ⟨x, hx, rfl⟩ := h
  exact ⟨x, hx, rfl⟩
theorem val_exact {b off len n : Nat} {v : Value} (h : (CV.slice b off len (.exact n)).val η = some v) : ∃ x, η b = some x ∧ v = .slice (some ⟨x.blk, x.base + off, none⟩) len n := by
  simp only [CV.val, Option.map_eq_some_iff] at h
  obtain ⟨x, hx, rfl⟩ := h
  exact ⟨x, hx, rfl⟩
theorem val_tail {b off len n : Nat} {v : Value} (h : (CV.slice b off len (.tail n)).val η = some v) : ∃ x, η b = some x ∧ v = .slice (some ⟨x.blk, x.base + off, none⟩) len ((x.m - off) / n) := by
  simp only [CV.val, Option.map_eq_some_iff] at h
  obtain ⟨x, hx, rfl⟩ := h
  exact ⟨x, hx, rfl⟩
theorem val_tailE {b off len n o : Nat} {v : Value} (h : (CV.slice b off len (.tailE n o)).val η = some v) :
    ∃ x, η b = some x ∧ v = .slice (some ⟨x.blk, x.base + (if (x.m - off) / n = 0 then o else off), none⟩) len ((x.m - off) / n) := by
  simp only [CV.val, Option.map_eq_some_iff] at h
  obtain ⟨x, hx, rfl⟩ := h
  exact ⟨x, hx, rfl⟩
theorem val_tuple {cs : List CV} {v : Value} (h : (CV.tuple cs).val η = some v) : ∃ l, CV.vals η cs = some l ∧ v = .tuple l.toArray := by
  simp only [CV.val, Option.map_eq_some_iff] at h
  obtain ⟨l, hl, rfl⟩ := h
  exact ⟨l, hl, rfl⟩
theorem val_iface {t : TypeId} {c : CV} {v : Value} (h : (CV.iface t c).val η = some v) : ∃ u, c.val η = some u ∧ v = .iface t u := by
  simp only [CV.val, Option.map_eq_some_iff] at h
  obtain ⟨l, hl, rfl⟩ := h
  exact ⟨l, hl, rfl⟩
theorem val_func {fn : Fn} {a b : List CV} {v : Value} (h : (CV.func fn a b).val η = some v) : ∃ l m, CV.vals η a = some l ∧ CV.vals η b = some m ∧ v = .func fn l.toArray m.toArray := by
  simp only [CV.val, Option.bind_eq_some_iff, Option.map_eq_some_iff] at h
  obtain ⟨l, hl, m, hm, rfl⟩ := h
  exact ⟨l, m, hl, hm, rfl⟩

theorem intBin_sound {op : BinOp} {k : IntKind} {t : TypeId} {a b : Int} {c : CV} (h : intBin op k a b = some c) (hs : op ≠ .shl) (hs' : op ≠ .shr) :
    ∃ v, c.val η = some v ∧ (binOp op t (.int k a) (.int k b)).run P w = .ok v w := by
  cases op <;> simp only [intBin] at h <;> try contradiction
  case quo =>
    split at h
    · cases h
    · rename_i hz
      injection h with h; subst h
      have hz' : b ≠ 0 := fun e => by rw [(ieq_iff b 0).2 e] at hz; cases hz
      exact ⟨_, rfl, by simp [binOp, Op.intDiv, hz', wrap_eq]⟩
  case rem =>
    split at h
    · cases h
    · rename_i hz
      injection h with h; subst h
      have hz' : b ≠ 0 := fun e => by rw [(ieq_iff b 0).2 e] at hz; cases hz
      exact ⟨_, rfl, by simp [binOp, Op.intDiv, hz']⟩
  all_goals (injection h with h; subst h; refine ⟨_, rfl, ?_⟩)
  all_goals simp [Op.intArith, Op.intBits, binOp, Op.intCmp, wrap_eq, ieq_eq, ilt_eq, ile_eq, bne]

theorem shift_sound {op : BinOp} {k k' : IntKind} {t : TypeId} {a b : Int} {c : CV} (h : intBin op k a b = some c) (hs : op = .shl ∨ op = .shr) :
    ∃ v, c.val η = some v ∧ (binOp op t (.int k a) (.int k' b)).run P w = .ok v w := by
  rcases hs with rfl | rfl <;> simp only [intBin] at h
  all_goals
    split at h
    · cases h
    · rename_i hz
      injection h with h; subst h
      have hz' : ¬ b < 0 := fun e => by rw [(ilt_iff b 0).2 e] at hz; cases hz
      exact ⟨_, rfl, by simp [binOp, Op.shift, hz', wrap_eq]⟩

theorem strBin_sound {op : BinOp} {t : TypeId} {a b : ByteArray} {c : CV} (h : strBin op a b = some c) :
    ∃ v, c.val η = some v ∧ (binOp op t (.string a) (.string b)).run P w = .ok v w := by
  have e : ∀ op, op ≠ .shl → op ≠ .shr → binOp op t (.string a) (.string b) = Op.stringOp op a b := by intro op h1 h2; cases op <;> first | rfl | contradiction
  cases op <;> simp only [strBin] at h <;> try contradiction
  case add =>
    split at h
    · rename_i hz
      injection h with h; subst h
      have hz' := Nat.le_of_ble_eq_true hz
      refine ⟨_, rfl, ?_⟩
      rw [e _ (by simp) (by simp)]
      simp [Op.stringOp]
      omega
    · cases h
  all_goals
    injection h with h; subst h; refine ⟨_, rfl, ?_⟩
    rw [e _ (by simp) (by simp)]
    simp [Op.stringOp, toList_data, bytesEq_eq, bytesLt_eq]

theorem binOp_eql_other {t : TypeId} {x y : Value} (hi : ∀ k a k' b, ¬ (x = .int k a ∧ y = .int k' b)) (hs : ∀ a b, ¬ (x = .string a ∧ y = .string b))
    (hf : ∀ k a k' b, ¬ (x = .float k a ∧ y = .float k' b)) (hc : ∀ k a b k' c d, ¬ (x = .complex k a b ∧ y = .complex k' c d)) :
    binOp .eql t x y = (do pure (.bool (← Op.equal t x y))) ∧ binOp .neq t x y = (do pure (.bool (!(← Op.equal t x y)))) := by
  constructor
  all_goals
    unfold binOp
    split
    all_goals
      first
        | rfl
        | (exfalso; exact hi _ _ _ _ ⟨rfl, rfl⟩)
        | (exfalso; exact hs _ _ ⟨rfl, rfl⟩)
        | (exfalso; exact hf _ _ _ _ ⟨rfl, rfl⟩)
        | (exfalso; exact hc _ _ _ _ _ _ ⟨rfl, rfl⟩)
        | contradiction
        | simp_all

/-- No clean value is a float. -/
theorem val_ne_float {c : CV} {v : Value} (h : c.val η = some v) : (∀ k b, v ≠ .float k b) ∧ (∀ k a b, v ≠ .complex k a b) ∧ (∀ r, v ≠ .chan r) := by
  cases c with
  | slice b off len cap => obtain ⟨a, c, rfl⟩ := val_slice h; simp
  | func fn a b => obtain ⟨l, m, _, _, rfl⟩ := val_func h; simp
  | iface t c => obtain ⟨l, _, rfl⟩ := val_iface h; simp
  | agg cs => obtain ⟨l, _, rfl⟩ := vals_agg h; simp
  | tuple cs => obtain ⟨l, _, rfl⟩ := val_tuple h; simp
  | ptr b off => obtain ⟨x, _, rfl⟩ := val_ptr h; simp
  | map b => obtain ⟨x, _, rfl⟩ := val_map h; simp
  | _ => simp [CV.val] at h; subst h; simp

theorem val_int_inv {c : CV} {k : IntKind} {n : Int} (h : c.val η = some (.int k n)) : c = .int k n := by
  cases c with
  | slice b off len cap => obtain ⟨a, c, e⟩ := val_slice h; cases e
  | func fn a b => obtain ⟨l, m, _, _, e⟩ := val_func h; cases e
  | iface t c => obtain ⟨l, _, e⟩ := val_iface h; cases e
  | agg cs => obtain ⟨l, _, e⟩ := vals_agg h; cases e
  | tuple cs => obtain ⟨l, _, e⟩ := val_tuple h; cases e
  | ptr b off => obtain ⟨x, _, e⟩ := val_ptr h; cases e
  | map b => obtain ⟨x, _, e⟩ := val_map h; cases e
  | _ => simp [CV.val] at h; try (obtain ⟨rfl, rfl⟩ := h; rfl)
theorem val_str_inv {c : CV} {s : ByteArray} (h : c.val η = some (.string s)) : c = .str s := by
  cases c with
  | slice b off len cap => obtain ⟨a, c, e⟩ := val_slice h; cases e
  | func fn a b => obtain ⟨l, m, _, _, e⟩ := val_func h; cases e
  | iface t c => obtain ⟨l, _, e⟩ := val_iface h; cases e
  | agg cs => obtain ⟨l, _, e⟩ := vals_agg h; cases e
  | tuple cs => obtain ⟨l, _, e⟩ := val_tuple h; cases e
  | ptr b off => obtain ⟨x, _, e⟩ := val_ptr h; cases e
  | map b => obtain ⟨x, _, e⟩ := val_map h; cases e
  | _ => simp [CV.val] at h; try (subst h; rfl)

/-- The guard of a comparison lets clean values by that ceq compares. -/
theorem ceq_guard {d : Nat} {t : TypeId} {x y : CV} {x' y' : Value} {r : Bool} (hx : x.val η = some x') (hy : y.val η = some y') (h : ceq P d t x y = some r)
    (hg : P.eqGuardType P.depth t = false) (op : BinOp) (ox oy : Operand) : (eqGuard op t ox oy x' y').run P w = .ok () w := by
  cases d with
  | zero => simp [ceq] at h
  | succ d =>
    unfold ceq at h
    split at h
    case h_4 =>
      obtain ⟨lx, _, rfl⟩ := vals_agg hx
      obtain ⟨ly, _, rfl⟩ := vals_agg hy
      exact run_eqGuard_agg w op t ox oy _ _ hg
    case h_17 => cases h
    all_goals
      first
        | (rw [val_bool hx]; cases op <;> rfl)
        | (rw [val_int hx]; cases op <;> rfl)
        | (rw [val_str hx]; cases op <;> rfl)
        | (obtain ⟨_, _, e⟩ := val_slice hx; subst e; cases op <;> rfl)
        | (obtain ⟨_, _, e⟩ := val_ptr hx; subst e; cases op <;> rfl)
        | (obtain ⟨_, _, e⟩ := val_map hx; subst e; cases op <;> rfl)
        | (obtain ⟨_, _, _, _, e⟩ := val_func hx; subst e; cases op <;> rfl)
        | (simp only [CV.val, Option.some.injEq] at hx; subst hx; cases op <;> rfl)

theorem binC_sound {op : BinOp} {t : TypeId} {x y : CV} {x' y' : Value} {c : CV} (hx : x.val η = some x') (hy : y.val η = some y') (h : binC P op t x y = some c) (ox oy : Operand) :
    ∃ v, c.val η = some v ∧ (do eqGuard op t ox oy x' y'; binOp op t x' y').run P w = .ok v w := by
  unfold binC at h
  split at h
  · rename_i k a k' b
    rw [val_int hx, val_int hy]
    have hg : (eqGuard op t ox oy (.int k a) (.int k' b)).run P w = .ok () w := by cases op <;> rfl
    simp only [Sem.run_bind, hg, Result.andThen_ok]
    split at h
    · exact shift_sound h (.inl rfl)
    · exact shift_sound h (.inr rfl)
    · rename_i h1 h2
      split at h
      · rename_i hk; subst hk
        exact intBin_sound h h1 h2
      · cases h
  · rename_i a b
    rw [val_str hx, val_str hy]
    have hg : (eqGuard op t ox oy (.string a) (.string b)).run P w = .ok () w := by cases op <;> rfl
    simp only [Sem.run_bind, hg, Result.andThen_ok]
    exact strBin_sound h
  · rename_i hi hs
    have hother := binOp_eql_other (t := t) (x := x') (y := y')
      (fun k a k' b ⟨e1, e2⟩ => hi k a k' b (val_int_inv (e1 ▸ hx)) (val_int_inv (e2 ▸ hy)))
      (fun a b ⟨e1, e2⟩ => hs a b (val_str_inv (e1 ▸ hx)) (val_str_inv (e2 ▸ hy)))
      (fun k a k' b ⟨e1, _⟩ => (val_ne_float hx).1 _ _ e1) (fun k a b k' c d ⟨e1, _⟩ => (val_ne_float hx).2.1 _ _ _ e1)
    split at h
    · split at h
      · cases h
      · rename_i hg
        simp only [Option.map_eq_some_iff] at h
        obtain ⟨r, hr, rfl⟩ := h
        refine ⟨.bool r, rfl, ?_⟩
        simp only [Sem.run_bind, ceq_guard hx hy hr hg, Result.andThen_ok, hother.1, Op.equal, ceq_sound Op.maxDepth hx hy hr (by simp [Op.maxDepth]), Sem.run_pure]
    · split at h
      · cases h
      · rename_i hg
        simp only [Option.map_eq_some_iff] at h
        obtain ⟨r, hr, rfl⟩ := h
        refine ⟨.bool (!r), rfl, ?_⟩
        simp only [Sem.run_bind, ceq_guard hx hy hr hg, Result.andThen_ok, hother.2, Op.equal, ceq_sound Op.maxDepth hx hy hr (by simp [Op.maxDepth]), Sem.run_pure]
    · cases h
end
end Go.K

namespace Go.K
set_option linter.unusedSimpArgs false
set_option linter.unusedVariables false
section
variable {P : Program} {η : Eta} {H : Heap} {w : World}

theorem cutIdx_sound {x : CV} {x' : Value} {n i : Nat} (hx : x.val η = some x') (h : cutIdx x n = some i) (code : BoundsCode) :
    (Instr.sliceBound x' n code).run P w = .ok i w ∧ i ≤ n := by
  unfold cutIdx at h
  split at h
  · rename_i k j
    split at h
    · rename_i hle
      injection h with h; subst h
      have hle' := Nat.le_of_ble_eq_true hle
      rw [val_int hx]
      refine ⟨?_, hle'⟩
      have h1 : (0 : Int) ≤ Int.ofNat j ∧ Int.ofNat j ≤ (n : Int) := ⟨Int.natCast_nonneg j, by simpa using hle'⟩
      simp only [Instr.sliceBound, asIntOf, Sem.run_bind, Sem.run_pure, Result.andThen_ok, h1, and_self, if_true]
      rfl
    · cases h
  · cases h

/-- What a bound that may be left out reads as. -/
def optVal (η : Eta) : Option CV → Option Value → Prop
  | none, none => True
  | some c, some v => c.val η = some v
  | _, _ => False

theorem bounds_run {isSlice : Bool} {len cap : Nat} {lo hi mx : Option CV} {lo' hi' mx' : Option Value} {l h m : Nat}
    (hlo : optVal η lo lo') (hhi : optVal η hi hi') (hmx : optVal η mx mx')
    (em : cutIdxO mx cap cap = some m) (eh : cutHi hi mx len m = some h)
    (el : cutIdxO lo h 0 = some l) : (Instr.sliceBounds isSlice len cap lo' hi' mx').run P w = .ok (l, h, m) w := by
  cases mx with
  | none =>
    cases mx' with
    | some _ => exact hmx.elim
    | none =>
      simp only [cutIdxO, Option.some.injEq] at em; subst em
      cases hi with
      | none =>
        cases hi' with
        | some _ => exact hhi.elim
        | none =>
          simp only [cutHi, Option.some.injEq] at eh; subst eh
          cases lo with
          | none =>
            cases lo' with
            | some _ => exact hlo.elim
            | none => simp only [cutIdxO, Option.some.injEq] at el; subst el; simp [Instr.sliceBounds]
          | some cl =>
            cases lo' with
            | none => exact hlo.elim
            | some vl =>
              have L := fun code => (cutIdx_sound (P := P) (w := w) hlo el code).1
              simp [Instr.sliceBounds, L]
      | some ch =>
        cases hi' with
        | none => exact hhi.elim
        | some vh =>
          have Hh := fun code => (cutIdx_sound (P := P) (w := w) hhi eh code).1
          cases lo with
          | none =>
            cases lo' with
            | some _ => exact hlo.elim
            | none => simp only [cutIdxO, Option.some.injEq] at el; subst el; simp [Instr.sliceBounds, Hh]
          | some cl =>
            cases lo' with
            | none => exact hlo.elim
            | some vl =>
              have L := fun code => (cutIdx_sound (P := P) (w := w) hlo el code).1
              simp [Instr.sliceBounds, L, Hh]
  | some cm =>
    cases mx' with
    | none => exact hmx.elim
    | some vm =>
      have M := fun code => (cutIdx_sound (P := P) (w := w) hmx em code).1
      cases hi with
      | none => simp [cutHi] at eh
      | some ch =>
        cases hi' with
        | none => exact hhi.elim
        | some vh =>
          have Hh := fun code => (cutIdx_sound (P := P) (w := w) hhi eh code).1
          cases lo with
          | none =>
            cases lo' with
            | some _ => exact hlo.elim
            | none => simp only [cutIdxO, Option.some.injEq] at el; subst el; simp [Instr.sliceBounds, M, Hh]
          | some cl =>
            cases lo' with
            | none => exact hlo.elim
            | some vl =>
              have L := fun code => (cutIdx_sound (P := P) (w := w) hlo el code).1
              simp [Instr.sliceBounds, L, M, Hh]

/-- The room of a slice that clean memory knows is there. -/
theorem roomC_sound (hH : HRel η H w) {b off sz c : Nat} {cap : Cap} {x : Loc} (hx : η b = some x) (h : roomC H b off sz cap = some c) :
    (∀ n, cap = .exact n → c = n) ∧ (∀ s, cap = .tail s ∨ (∃ o, cap = .tailE s o) → c ≤ (x.m - off) / sz) := by
  unfold roomC at h
  split at h
  · injection h with h; subst h; simp
  · split at h
    · rename_i cs e f hb
      injection h with h; subst h
      obtain ⟨y, l, hy, hl, hle, _⟩ := cells_there hH hb
      rw [hx] at hy; injection hy with hy; subst hy
      exact ⟨by simp, fun s _ => Nat.div_le_div_right (by omega)⟩
    · cases h
  · split at h
    · rename_i cs e f hb
      injection h with h; subst h
      obtain ⟨y, l, hy, hl, hle, _⟩ := cells_there hH hb
      rw [hx] at hy; injection hy with hy; subst hy
      exact ⟨by simp, fun s _ => Nat.div_le_div_right (by omega)⟩
    · cases h

theorem cutIdxO_le {x : Option CV} {n d i : Nat} (h : cutIdxO x n d = some i) (hd : d ≤ n) : i ≤ n := by
  cases x with
  | none => simp [cutIdxO] at h; omega
  | some v =>
    simp only [cutIdxO, cutIdx] at h
    split at h
    · split at h
      · rename_i hle; injection h with h; subst h; exact Nat.le_of_ble_eq_true hle
      · cases h
    · cases h
theorem cutIdx_le {x : CV} {n i : Nat} (h : cutIdx x n = some i) : i ≤ n := cutIdxO_le (x := some x) (d := 0) h (Nat.zero_le _)

/-- A bound that holds under a smaller capacity holds under a greater one. -/
theorem cutIdx_mono {x : CV} {n m i : Nat} (h : cutIdx x n = some i) (hm : n ≤ m) : cutIdx x m = some i := by
  unfold cutIdx at h ⊢
  split at h
  · split at h
    · rename_i hle
      injection h with h; subst h
      have := Nat.le_of_ble_eq_true hle
      simp only [show Nat.ble _ m = true from Nat.ble_eq_true_of_le (Nat.le_trans this hm)]
    · cases h
  · cases h

theorem sliceAt_slice {t e : TypeId} (hu : P.underlying t = some (.slice e)) (x : Value) (lo hi mx : Option Value) :
    (Instr.sliceAt t x lo hi mx).run P w = (Instr.slice t x lo hi mx).run P w := by
  simp [Instr.sliceAt, und_run hu]

theorem cutHi_le {hi mx : Option CV} {len m h : Nat} (e : cutHi hi mx len m = some h) : h ≤ m ∨ (hi = none ∧ h = len) := by
  unfold cutHi at e
  split at e
  · exact .inl (cutIdx_le e)
  · injection e with e; exact .inr ⟨rfl, e.symm⟩
  · cases e
theorem cutHi_mono {hi mx : Option CV} {len m m' h : Nat} (e : cutHi hi mx len m = some h) (hm : m ≤ m') : cutHi hi mx len m' = some h := by
  unfold cutHi at e ⊢
  split at e
  · exact cutIdx_mono e hm
  · exact e
  · cases e

theorem sub_div_sub (a b l s : Nat) (hs : 0 < s) : (a - b) / s - l = (a - (b + l * s)) / s := by
  rw [← Nat.sub_sub]
  generalize a - b = d
  have h := Nat.sub_mul_div d s l
  rw [Nat.mul_comm] at h
  rw [← h]

theorem sliceC_sound (hH : HRel η H w) {t : TypeId} {x : CV} {x' : Value} {lo hi mx : Option CV} {lo' hi' mx' : Option Value} {c : CV}
    (hx : x.val η = some x') (hlo : optVal η lo lo') (hhi : optVal η hi hi') (hmx : optVal η mx mx') (h : sliceC P H t x lo hi mx = some c) :
    ∃ v, c.val η = some v ∧ (Instr.sliceAt t x' lo' hi' mx').run P w = .ok v w := by
  unfold sliceC at h
  split at h
  · -- a string
    rename_i s hu
    split at h
    · cases h
    · simp only [Option.bind_eq_some_iff, Option.map_eq_some_iff] at h
      obtain ⟨hh, eh, l, el, rfl⟩ := h
      rw [val_str hx]
      have hmx' : mx' = none := by cases mx' with | none => rfl | some _ => exact hmx.elim
      subst hmx'
      have hb := bounds_run (P := P) (w := w) (η := η) (isSlice := false) (len := s.size) (cap := s.size) (m := s.size) hlo hhi (mx := none) (mx' := none) trivial rfl
        (h := hh) eh el
      refine ⟨_, rfl, ?_⟩
      simp only [Instr.sliceAt, Sem.run_bind, und_run hu, Result.andThen_ok, Instr.slice, Option.isSome_none, Bool.false_eq_true, if_false, hb, Sem.run_pure]
  · -- a slice that is nil
    rename_i e hu
    simp only [Option.bind_eq_some_iff, Option.map_eq_some_iff] at h
    obtain ⟨sz, hsz, m, em, hh, eh, l, el, rfl⟩ := h
    have hx' : x' = .slice none 0 0 := by simp [CV.val] at hx; exact hx.symm
    subst hx'
    have m0 : m = 0 := Nat.le_zero.1 (cutIdxO_le em (Nat.le_refl _))
    subst m0
    have hb := bounds_run (P := P) (w := w) (η := η) (isSlice := true) (len := 0) (cap := 0) hlo hhi hmx em eh el
    refine ⟨.slice none 0 0, rfl, ?_⟩
    have h0 : hh = 0 := by
      rcases cutHi_le eh with h | ⟨_, h⟩
      · exact Nat.le_zero.1 h
      · exact h
    subst h0
    have l0 : l = 0 := Nat.le_zero.1 (cutIdxO_le el (Nat.le_refl _))
    subst l0
    rw [sliceAt_slice hu]
    simp [Instr.slice, und_run hu, hb, szC_sound hsz]
  · -- a slice
    rename_i e b off len cap hu
    simp only [Option.bind_eq_some_iff] at h
    obtain ⟨sz, hsz, h⟩ := h
    split at h
    · cases h
    · rename_i sz
      simp only [Option.bind_eq_some_iff] at h
      obtain ⟨c, hc, m, em, hh, eh, l, el, h⟩ := h
      have hlh : l ≤ hh := cutIdxO_le el (Nat.zero_le _)
      rw [sliceAt_slice hu]
      cases cap with
      | exact n =>
        obtain ⟨x, hbx, rfl⟩ := val_exact hx
        have hcn := (roomC_sound hH hbx hc).1 n rfl
        subst hcn
        simp only [recut, Option.some.injEq] at h; subst h
        have hb := bounds_run (P := P) (w := w) (η := η) (isSlice := true) (len := len) (cap := c) hlo hhi hmx em eh el
        refine ⟨.slice (some ⟨x.blk, x.base + startC m l off (sz + 1), none⟩) (hh - l) (m - l), by simp [CV.val, hbx], ?_⟩
        simp only [Instr.slice, Sem.run_bind, und_run hu, Result.andThen_ok, hb, szC_sound hsz, Sem.run_pure]
        rw [startC_eq]
        by_cases hml : m = l
        · simp [hml]
        · simp [hml, Addr.add_mk, Nat.add_assoc]
      | tail s =>
        obtain ⟨x, hbx, rfl⟩ := val_tail hx
        simp only [recut] at h
        split at h
        · rename_i hs
          simp only [Bool.and_eq_true] at hs
          have hs' := Nat.eq_of_beq_eq_true hs.1
          have hle' := Nat.le_of_ble_eq_true hs.2
          subst hs'
          have hcC : c ≤ (x.m - off) / (sz + 1) := (roomC_sound hH hbx hc).2 (sz + 1) (.inl rfl)
          split at h
          · -- with its capacity told
            rename_i htold
            obtain ⟨cm, rfl⟩ : ∃ cm, mx = some cm := by cases mx with | none => simp at htold | some cm => exact ⟨cm, rfl⟩
            injection h with h; subst h
            have em' : cutIdxO (some cm) ((x.m - off) / (sz + 1)) ((x.m - off) / (sz + 1)) = some m := cutIdx_mono (x := cm) em hcC
            have hb := bounds_run (P := P) (w := w) (η := η) (isSlice := true) (len := len) hlo hhi hmx em' eh el
            refine ⟨.slice (some ⟨x.blk, x.base + startC m l off (sz + 1), none⟩) (hh - l) (m - l), by simp [CV.val, hbx], ?_⟩
            simp only [Instr.slice, Sem.run_bind, und_run hu, Result.andThen_ok, hb, szC_sound hsz, Sem.run_pure]
            rw [startC_eq]
            by_cases hml : m = l
            · simp [hml]
            · simp [hml, Addr.add_mk, Nat.add_assoc]
          · rename_i htold
            have hmx0 : mx = none := by cases mx with | none => rfl | some _ => simp at htold
            subst hmx0
            have hmx' : mx' = none := by cases mx' with | none => rfl | some _ => exact hmx.elim
            subst hmx'
            simp only [cutIdxO, Option.some.injEq] at em; subst em
            have hb := bounds_run (P := P) (w := w) (η := η) (isSlice := true) (len := len) (cap := (x.m - off) / (sz + 1)) (m := (x.m - off) / (sz + 1)) hlo hhi (mx := none) (mx' := none) trivial rfl
              (cutHi_mono eh hcC) el
            split at h
            · rename_i hhl
              have hhl' := Nat.eq_of_beq_eq_true hhl
              subst hhl'
              injection h with h; subst h
              refine ⟨_, by simp only [CV.val, hbx, Option.map_some]; rfl, ?_⟩
              simp only [Instr.slice, Sem.run_bind, und_run hu, Result.andThen_ok, hb, szC_sound hsz, Sem.run_pure]
              rw [← sub_div_sub _ _ _ _ (Nat.succ_pos sz)]
              congr 1
              by_cases hml : (x.m - off) / (sz + 1) = hh
              · simp [hml]
              · have : ¬ (x.m - off) / (sz + 1) - hh = 0 := by omega
                simp [hml, this, Addr.add_mk, Nat.add_assoc]
            · rename_i hhl
              have hhl' := Nat.ne_of_beq_eq_false hhl
              injection h with h; subst h
              refine ⟨_, by simp only [CV.val, hbx, Option.map_some]; rfl, ?_⟩
              simp only [Instr.slice, Sem.run_bind, und_run hu, Result.andThen_ok, hb, szC_sound hsz, Sem.run_pure]
              rw [← sub_div_sub _ _ _ _ (Nat.succ_pos sz)]
              have : ¬ (x.m - off) / (sz + 1) = l := by omega
              simp [this, Addr.add_mk, Nat.add_assoc]
        · cases h
      | tailE s o0 =>
        obtain ⟨x, hbx, rfl⟩ := val_tailE hx
        simp only [recut] at h
        split at h
        · rename_i htold hs
          injection h with h; subst h
          simp only [Bool.and_eq_true] at hs
          have hs' := Nat.eq_of_beq_eq_true hs.1
          have h0 := Nat.eq_of_beq_eq_true hs.2
          subst hs' h0
          have l0 : l = 0 := by omega
          subst l0
          have hmx0 : mx = none := by cases mx with | none => rfl | some _ => simp at htold
          subst hmx0
          have hmx' : mx' = none := by cases mx' with | none => rfl | some _ => exact hmx.elim
          subst hmx'
          simp only [cutIdxO, Option.some.injEq] at em; subst em
          have hcC : c ≤ (x.m - off) / (sz + 1) := (roomC_sound hH hbx hc).2 (sz + 1) (.inr ⟨_, rfl⟩)
          have hb := bounds_run (P := P) (w := w) (η := η) (isSlice := true) (len := len) (cap := (x.m - off) / (sz + 1)) (m := (x.m - off) / (sz + 1)) hlo hhi (mx := none) (mx' := none) trivial rfl
              (cutHi_mono eh hcC) el
          refine ⟨_, by simp only [CV.val, hbx, Option.map_some]; rfl, ?_⟩
          simp only [Instr.slice, Sem.run_bind, und_run hu, Result.andThen_ok, hb, szC_sound hsz, Sem.run_pure]
          by_cases hml : (x.m - off) / (sz + 1) = 0
          · simp [hml]
          · simp [hml, Addr.add_mk, Nat.add_assoc]
        · cases h
  · -- an array's address
    rename_i n e b off hu
    simp only [Option.bind_eq_some_iff] at h
    obtain ⟨sz, hsz, h⟩ := h
    split at h
    · cases h
    · rename_i sz
      simp only [Option.bind_eq_some_iff, Option.map_eq_some_iff] at h
      obtain ⟨m, em, hh, eh, l, el, rfl⟩ := h
      obtain ⟨x, hbx, rfl⟩ := val_ptr hx
      have hb := bounds_run (P := P) (w := w) (η := η) (isSlice := false) (len := n) (cap := n) hlo hhi hmx em eh el
      refine ⟨.slice (some ⟨x.blk, x.base + startC m l off (sz + 1), none⟩) (hh - l) (m - l), by simp [CV.val, hbx], ?_⟩
      simp only [Instr.sliceAt, Instr.sureAddr, Sem.run_bind, und_run hu, Result.andThen_ok, hb, szC_sound hsz, Sem.run_pure]
      rw [startC_eq]
      by_cases hml : m = l
      · simp [hml]
      · simp [hml, Addr.add_mk, Nat.add_assoc]
  · cases h
end
end Go.K

namespace Go.K
set_option linter.unusedSimpArgs false
set_option linter.unusedVariables false
section
variable {P : Program} {η : Eta} {H : Heap} {w : World}

theorem indexAddrC_sound {t : TypeId} {x i : CV} {x' i' : Value} {c : CV} (hx : x.val η = some x') (hi : i.val η = some i') (h : indexAddrC P t x i = some c) :
    ∃ v, c.val η = some v ∧ (Instr.indexAt t x' i').run P w = .ok v w := by
  unfold indexAddrC at h
  split at h
  · rename_i k n
    rw [val_int hi]
    have h0 : (0 : Int) ≤ Int.ofNat n := Int.natCast_nonneg n
    split at h
    · rename_i e b off len cap hu
      have fin : ∀ {a : Addr} {C : Nat}, Nat.blt n len = true → (szC P e).map (fun sz => CV.ptr b (off + n * sz)) = some c → (∃ x, η b = some x ∧ a = ⟨x.blk, x.base + off, none⟩) →
          ∃ v, c.val η = some v ∧ (Instr.indexAt t (.slice (some a) len C) (.int k (Int.ofNat n))).run P w = .ok v w := by
        intro a C hlt hc ⟨x, hbx, ha⟩
        simp only [Option.map_eq_some_iff] at hc
        obtain ⟨sz, hsz, rfl⟩ := hc
        have hlt' : n < len := by simpa [Nat.blt_eq] using hlt
        refine ⟨.pointer (some ⟨x.blk, x.base + (off + n * sz), none⟩), by simp [CV.val, hbx], ?_⟩
        have h1 : (0 : Int) ≤ Int.ofNat n ∧ Int.ofNat n < (len : Int) := ⟨h0, by simpa using hlt'⟩
        simp only [Instr.indexAt, asIntOf, Sem.run_bind, Sem.run_pure, Result.andThen_ok, und_run hu, h1, and_self, if_true, szC_sound hsz, ha]
        rw [Addr.add_mk, Nat.add_assoc]
        rfl
      split at h
      · cases h
      · rename_i hne
        split at h
        · rename_i hlt
          cases cap with
          | exact m => obtain ⟨x, hbx, rfl⟩ := val_exact hx; exact fin hlt h ⟨x, hbx, rfl⟩
          | tail s => obtain ⟨x, hbx, rfl⟩ := val_tail hx; exact fin hlt h ⟨x, hbx, rfl⟩
          | tailE s o => exact absurd rfl (hne s o)
        · cases h
    · rename_i len e b off hu
      split at h
      · rename_i hlt
        simp only [Option.map_eq_some_iff] at h
        obtain ⟨sz, hsz, rfl⟩ := h
        obtain ⟨x, hbx, rfl⟩ := val_ptr hx
        have hlt' : n < len := by simpa [Nat.blt_eq] using hlt
        refine ⟨.pointer (some ⟨x.blk, x.base + (off + n * sz), none⟩), by simp [CV.val, hbx], ?_⟩
        have h1 : (0 : Int) ≤ Int.ofNat n ∧ Int.ofNat n < (len : Int) := ⟨h0, by simpa using hlt'⟩
        simp only [Instr.indexAt, asIntOf, Sem.run_bind, Sem.run_pure, Result.andThen_ok, und_run hu, Instr.sureAddr, h1, and_self, if_true, szC_sound hsz]
        rw [Addr.add_mk, Nat.add_assoc]
        rfl
      · cases h
    · cases h
  · cases h

theorem indexC_sound {t : TypeId} {x i : CV} {x' i' : Value} {c : CV} (hx : x.val η = some x') (hi : i.val η = some i') (h : indexC P t x i = some c) :
    ∃ v, c.val η = some v ∧ (Instr.index t x' i').run P w = .ok v w := by
  unfold indexC at h
  split at h
  · rename_i k n
    rw [val_int hi]
    have h0 : (0 : Int) ≤ Int.ofNat n := Int.natCast_nonneg n
    split at h
    · rename_i s hu
      simp only [Option.map_eq_some_iff] at h
      obtain ⟨b, hb, rfl⟩ := h
      rw [val_str hx]
      refine ⟨_, rfl, ?_⟩
      have hb' : s[(Int.ofNat n).toNat]? = some b := by
        have hlt := (List.getElem?_eq_some_iff.1 hb).1
        have hsz : n < s.size := by show n < s.data.size; rw [← Array.length_toList]; exact hlt
        show s[n]? = some b
        rw [getElem?_pos s n hsz]
        have := (List.getElem?_eq_some_iff.1 hb).2
        rw [← this]
        rfl
      simp only [Instr.index, asIntOf, Sem.run_bind, Sem.run_pure, Result.andThen_ok, und_run hu, h0, if_true, hb']
    · rename_i len e cs hu
      split at h
      · rename_i hlt
        simp only [Option.bind_eq_some_iff] at h
        obtain ⟨sz, hsz, hp⟩ := h
        obtain ⟨l, hl, rfl⟩ := vals_agg hx
        have hlt' : n < len := by simpa [Nat.blt_eq] using hlt
        obtain ⟨v, hv, hr⟩ := partC_sound hl hp w
        refine ⟨v, hv, ?_⟩
        have h1 : (0 : Int) ≤ Int.ofNat n ∧ Int.ofNat n < (len : Int) := ⟨h0, by simpa using hlt'⟩
        simp only [Instr.index, asIntOf, Sem.run_bind, Sem.run_pure, Result.andThen_ok, und_run hu, h1, and_self, if_true, szC_sound hsz]
        exact hr
      · cases h
    · cases h
  · cases h

theorem fieldC_sound {t : TypeId} {x : CV} {x' : Value} {f : Nat} {c : CV} (hx : x.val η = some x') (h : fieldC P t x f = some c) :
    ∃ v, c.val η = some v ∧ (Instr.field t x' f).run P w = .ok v w := by
  unfold fieldC at h
  split at h
  · rename_i fs cs hu
    simp only [Option.bind_eq_some_iff] at h
    obtain ⟨fd, hf, hp⟩ := h
    obtain ⟨l, hl, rfl⟩ := vals_agg hx
    obtain ⟨v, hv, hr⟩ := partC_sound hl hp w
    refine ⟨v, hv, ?_⟩
    simp only [Instr.field, Sem.run_bind, und_run hu, Result.andThen_ok, hf, asAgg, Sem.run_pure]
    exact hr
  · cases h

theorem fieldAddrC_sound {t : TypeId} {x : CV} {x' : Value} {f : Nat} {c : CV} (hx : x.val η = some x') (h : fieldAddrC P t x f = some c) :
    ∃ v, c.val η = some v ∧ (Instr.fieldAt t x' f).run P w = .ok v w := by
  unfold fieldAddrC at h
  split at h
  · rename_i fs b off hu
    simp only [Option.bind_eq_some_iff] at h
    obtain ⟨fd, hf, hp⟩ := h
    split at hp
    · rename_i n hsz
      injection hp with hp; subst hp
      obtain ⟨x, hbx, rfl⟩ := val_ptr hx
      refine ⟨.pointer (some ⟨x.blk, x.base + (off + fd.offset), none⟩), by simp [CV.val, hbx], ?_⟩
      simp only [Instr.fieldAt, Sem.run_bind, und_run hu, Result.andThen_ok, hf, Instr.sureAddr, Sem.run_pure, fieldPlace, szC_sound hsz, Nat.add_one_ne_zero, if_false, Addr.add_mk, Nat.add_assoc]
    · cases hp
  · cases h

theorem convC_sound {s d : TypeId} {x : CV} {x' : Value} {c : CV} (hx : x.val η = some x') (h : convC P s d H x = some c) :
    ∃ v, c.val η = some v ∧ (convert s d x').run P w = .ok v w := by
  unfold convC at h
  split at h
  · rename_i ds k k' n hs hd
    injection h with h; subst h
    rw [val_int hx]
    refine ⟨_, rfl, ?_⟩
    simp only [convert, Sem.run_bind, und_run hs, und_run hd, Result.andThen_ok]
    cases ds <;> simp [Conv.intToInt, wrap_eq]
  · rename_i ds b hs hd
    injection h with h; subst h
    rw [val_str hx]
    refine ⟨_, rfl, ?_⟩
    simp only [convert, Sem.run_bind, und_run hs, und_run hd, Result.andThen_ok]
    cases ds <;> simp
  · cases h

/- building -/
theorem setRow_toList (off : Nat) : ∀ (vs : List Value) (j : Nat) (a : Array Value), off + j + vs.length ≤ a.size →
    ((vs.zipIdx j).foldl (fun (cs : Array Value) (p : Value × Nat) => cs.setIfInBounds (off + p.2) p.1) a).toList = a.toList.take (off + j) ++ vs ++ a.toList.drop (off + j + vs.length)
  | [], j, a, h => by simp
  | v :: vs, j, a, h => by
    simp only [List.length_cons] at h
    simp only [List.zipIdx_cons, List.foldl_cons]
    rw [setRow_toList off vs (j + 1) _ (by simp; omega)]
    simp only [Array.toList_setIfInBounds, List.length_cons]
    have hlt : off + j < a.toList.length := by simp; omega
    rw [show off + (j + 1) = off + j + 1 by omega, List.take_succ_eq_append_getElem (by simpa using hlt)]
    rw [show off + j + (vs.length + 1) = off + j + 1 + vs.length by omega]
    have h1 : (a.toList.set (off + j) v).take (off + j) = a.toList.take (off + j) := by rw [List.take_set_of_le (Nat.le_refl _)]
    have h2 : (a.toList.set (off + j) v).drop (off + j + 1 + vs.length) = a.toList.drop (off + j + 1 + vs.length) := by rw [List.drop_set_of_lt (by omega)]
    rw [h1, h2]
    simp

theorem splice_vals {cs vs : List CV} {l m : List Value} (off : Nat) (hc : CV.vals η cs = some l) (hv : CV.vals η vs = some m) :
    CV.vals η (splice cs off vs) = some (l.take off ++ m ++ l.drop (off + m.length)) := by
  unfold splice
  rw [← CV.vals_length hv]
  exact CV.vals_append (CV.vals_append (CV.vals_take _ hc) hv) (CV.vals_drop _ hc)

def partsVal (η : Eta) : List (Nat × CV) → Option (List (Nat × Value))
  | [] => some []
  | (i, c) :: ps => (c.val η).bind fun v => (partsVal η ps).map ((i, v) :: ·)

theorem fillC_sound {place : Nat → Option (Nat × Nat)} : ∀ {parts : List (Nat × CV)} {parts' : List (Nat × Value)} {cells r : List CV} {l : List Value},
    partsVal η parts = some parts' → CV.vals η cells = some l → fillC place cells parts = some r →
    ∃ m, CV.vals η r = some m ∧ Instr.fill place l.toArray parts' = some m.toArray
  | [], ps', cells, r, l, hp, hl, h => by
    simp [partsVal] at hp; subst hp
    simp [fillC] at h; subst h
    exact ⟨l, hl, rfl⟩
  | (i, c) :: ps, ps', cells, r, l, hp, hl, h => by
    simp only [partsVal, Option.bind_eq_some_iff, Option.map_eq_some_iff] at hp
    obtain ⟨v, hv, ps'', hps, rfl⟩ := hp
    unfold fillC at h
    split at h
    · cases h
    · rename_i off size hplace
      split at h
      · rename_i hok
        simp only [Bool.and_eq_true] at hok
        have h1 := Nat.eq_of_beq_eq_true hok.1
        have h2 := Nat.le_of_ble_eq_true hok.2
        have hcv := CV.cells_val hv
        have hlen := CV.vals_length hcv
        have hll := CV.vals_length hl
        simp only [Array.length_toList] at hlen
        have hspl := splice_vals off hl hcv
        obtain ⟨m, hm, hf⟩ := fillC_sound hps hspl h
        refine ⟨m, hm, ?_⟩
        unfold Instr.fill
        simp only [hplace]
        have hsz : ¬ (v.cells.size ≠ size ∨ off + v.cells.size > l.toArray.size) := by
          simp only [ne_eq, not_or, Decidable.not_not, Nat.not_lt, List.size_toArray]; omega
        have key : v.cells.zipIdx.foldl (fun cs (p : Value × Nat) => cs.setIfInBounds (off + p.2) p.1) l.toArray = (l.take off ++ v.cells.toList ++ l.drop (off + v.cells.toList.length)).toArray := by
          apply Array.toList_inj.1
          rw [← Array.foldl_toList, Array.toList_zipIdx]
          have := setRow_toList off v.cells.toList 0 l.toArray (by simp; omega)
          simpa using this
        simp only [Bool.or_eq_true, decide_eq_true_eq, hsz, if_false]
        rw [← hf, ← key]
      · cases h

theorem zeroC_sound {t : TypeId} {cs : List CV} (h : zeroC P t = some cs) : ∃ z, (zeroValue t).run P w = .ok z w ∧ CV.vals η cs = some z.cells.toList := by
  unfold zeroC at h
  split at h
  · rename_i i hi
    split at h
    · rename_i z hz
      simp only [Option.map_eq_some_iff] at h
      obtain ⟨c, hc, rfl⟩ := h
      exact ⟨z, by simp [zeroValue, typeInfo, hi, hz], CV.cells_val (ofVal_sound 8 z c hc)⟩
    · cases h
  · cases h

theorem mapM_places (fs : List Field) (h : ∀ f ∈ fs, (szC P f.type).isSome = true) :
    (fs.mapM fun f => (do pure (f.offset, ← sizeOf f.type) : Sem (Nat × Nat))).run P w = .ok (fs.map fun f => (f.offset, (szC P f.type).getD 0)) w := by
  induction fs with
  | nil => simp
  | cons f fs ih =>
    obtain ⟨n, hn⟩ := Option.isSome_iff_exists.1 (h f (by simp))
    have ih' := ih (fun g hg => h g (by simp [hg]))
    simp only [List.mapM_cons, Sem.run_bind, szC_sound hn, Result.andThen_ok, Sem.run_pure, ih', List.map_cons, hn, Option.getD_some]

theorem buildC_sound {t : TypeId} {parts : List (Nat × CV)} {parts' : List (Nat × Value)} {c : CV} (hp : partsVal η parts = some parts') (h : buildC P t parts = some c) :
    ∃ v, c.val η = some v ∧ (Instr.build t parts'.toArray).run P w = .ok v w := by
  unfold buildC at h
  simp only [Option.bind_eq_some_iff] at h
  obtain ⟨zero, hz, h⟩ := h
  obtain ⟨z, hzr, hzv⟩ := zeroC_sound (w := w) (η := η) hz
  split at h
  · rename_i fs hu
    split at h
    · rename_i hall
      simp only [Option.map_eq_some_iff] at h
      obtain ⟨r, hr, rfl⟩ := h
      obtain ⟨m, hm, hf⟩ := fillC_sound hp hzv hr
      refine ⟨.agg m.toArray, by simp [CV.val, hm], ?_⟩
      have hpl := mapM_places (P := P) (w := w) fs.toList (fun f hf => (List.all_eq_true.1 hall) f hf)
      simp only [Instr.build, Sem.run_bind, hzr, und_run hu, Result.andThen_ok]
      rw [← Array.toArray_toList (xs := fs)]
      rw [List.mapM_toArray]
      simp only [Sem.run_map, hpl, Result.andThen_ok]
      have hplace : (fun i => ((fs.toList.map fun f => (f.offset, (szC P f.type).getD 0)).toArray : Array (Nat × Nat))[i]?) = placesOf P fs := by
        funext i
        simp only [placesOf, List.getElem?_toArray, List.getElem?_map, Array.getElem?_toList]
        cases hfi : fs[i]? with
        | none => simp
        | some f =>
          have : f ∈ fs.toList := by rw [Array.mem_toList_iff]; exact Array.mem_of_getElem? hfi
          obtain ⟨n, hn⟩ := Option.isSome_iff_exists.1 ((List.all_eq_true.1 hall) f this)
          simp [hn]
      rw [hplace]
      simp only [Array.toArray_toList] at hf
      rw [hf]
      rfl
    · cases h
  · rename_i n e hu
    simp only [Option.bind_eq_some_iff, Option.map_eq_some_iff] at h
    obtain ⟨s, hs, r, hr, rfl⟩ := h
    obtain ⟨m, hm, hf⟩ := fillC_sound hp hzv hr
    refine ⟨.agg m.toArray, by simp [CV.val, hm], ?_⟩
    simp only [Instr.build, Sem.run_bind, hzr, und_run hu, Result.andThen_ok, szC_sound hs]
    simp only [Array.toArray_toList] at hf
    rw [hf]
    rfl
  · cases h

theorem assertC_sound {x : CV} {x' : Value} {t u : TypeId} {ok : Bool} {c : CV} (hx : x.val η = some x') (h : assertC P x t ok = some c) :
    ∃ v, c.val η = some v ∧ (Instr.typeAssert x' u t ok).run P w = .ok v w := by
  unfold assertC at h
  split at h
  · cases h
  · rename_i d tx v hd hu
    split at h
    · rename_i he
      have he' := Nat.eq_of_beq_eq_true he
      subst he'
      injection h with h; subst h
      obtain ⟨v', hv, rfl⟩ := val_iface hx
      cases ok with
      | true =>
        refine ⟨.tuple #[v', .bool true], by simp [CV.val, CV.vals, hv], ?_⟩
        simp only [Instr.typeAssert, Sem.run_bind, und_run hu, Result.andThen_ok]
        cases d <;> first | (exact absurd rfl (hd _)) | simp
      | false =>
        refine ⟨v', hv, ?_⟩
        simp only [Instr.typeAssert, Sem.run_bind, und_run hu, Result.andThen_ok]
        cases d <;> first | (exact absurd rfl (hd _)) | simp
    · cases h
  · cases h

theorem entryVals_length : ∀ {es : List (CV × CV × Nat)} {l : List MapEntry}, entryVals η es = some l → l.length = es.length
  | [], l, h => by simp [entryVals] at h; simp [← h]
  | (k, v, b) :: es, l, h => by
    simp only [entryVals, Option.bind_eq_some_iff, Option.map_eq_some_iff] at h
    obtain ⟨k', _, v', _, l', hl, rfl⟩ := h
    simp [entryVals_length hl]

theorem lenC_sound (hH : HRel η H w) {t : TypeId} {x : CV} {x' : Value} {c : CV} (hx : x.val η = some x') (h : lenC P t H x = some c) (ts : Array TypeId) (hts : ts[0]? = some t) (ty : TypeId)
    (xs : Array Value) (hxs : xs[0]? = some x') : ∃ v, c.val η = some v ∧ (Builtin.len_ ts ty xs).run P w = .ok v w := by
  unfold lenC at h
  split at h
  · rename_i s hu
    injection h with h; subst h
    rw [val_str hx] at hxs
    refine ⟨_, rfl, ?_⟩
    simp only [Builtin.len_, hts, hxs, Sem.run_bind, und_run hu, Result.andThen_ok]; rfl
  · rename_i e hu
    injection h with h; subst h
    simp only [CV.val, Option.some.injEq] at hx; subst hx
    refine ⟨_, rfl, ?_⟩
    simp only [Builtin.len_, hts, hxs, Sem.run_bind, und_run hu, Result.andThen_ok]; rfl
  · rename_i e b off n cap hu
    injection h with h; subst h
    obtain ⟨a, C, rfl⟩ := val_slice hx
    refine ⟨_, rfl, ?_⟩
    simp only [Builtin.len_, hts, hxs, Sem.run_bind, und_run hu, Result.andThen_ok]; rfl
  · rename_i n e hu
    injection h with h; subst h
    refine ⟨_, rfl, ?_⟩
    simp only [Builtin.len_, hts, hxs, Sem.run_bind, und_run hu, Result.andThen_ok]; rfl
  · rename_i k e hu
    injection h with h; subst h
    simp only [CV.val, Option.some.injEq] at hx; subst hx
    refine ⟨_, rfl, ?_⟩
    simp only [Builtin.len_, hts, hxs, Sem.run_bind, und_run hu, Result.andThen_ok]; rfl
  · rename_i k e b hu
    split at h
    · rename_i es ck hb
      injection h with h; subst h
      obtain ⟨x, hbx, rfl⟩ := val_map hx
      obtain ⟨y, hy, l, hl, hw⟩ := hH.obj _ _ hb
      rw [hbx] at hy; injection hy with hy; subst hy
      refine ⟨_, rfl, ?_⟩
      simp only [Builtin.len_, hts, hxs, Sem.run_bind, und_run hu, Result.andThen_ok, getObj, Sem.run, hw]
      simp only [List.size_toArray, entryVals_length hl]; rfl
    · cases h
  · cases h

theorem maxC_sound {x y c : CV} {x' y' : Value} (hx : x.val η = some x') (hy : y.val η = some y') (h : maxC x y = some c) : ∃ v, c.val η = some v ∧ (Builtin.max2 x' y').run P w = .ok v w := by
  unfold maxC at h
  split at h
  · rename_i k a k' b
    injection h with h; subst h
    rw [val_int hx, val_int hy]
    refine ⟨_, rfl, ?_⟩
    simp only [Builtin.max2, Sem.run_pure, gt_iff_lt]
    congr 2
    cases hlt : ilt a b with
    | true => rw [if_pos ((ilt_iff _ _).1 hlt)]
    | false => rw [if_neg (fun e => by rw [(ilt_iff _ _).2 e] at hlt; cases hlt)]
  · cases h
theorem minC_sound {x y c : CV} {x' y' : Value} (hx : x.val η = some x') (hy : y.val η = some y') (h : minC x y = some c) : ∃ v, c.val η = some v ∧ (Builtin.min2 x' y').run P w = .ok v w := by
  unfold minC at h
  split at h
  · rename_i k a k' b
    injection h with h; subst h
    rw [val_int hx, val_int hy]
    refine ⟨_, rfl, ?_⟩
    simp only [Builtin.min2, Sem.run_pure]
    congr 2
    cases hlt : ilt b a with
    | true => rw [if_pos ((ilt_iff _ _).1 hlt)]
    | false => rw [if_neg (fun e => by rw [(ilt_iff _ _).2 e] at hlt; cases hlt)]
  · cases h
theorem foldO_sound {f : CV → CV → Option CV} {g : Value → Value → Sem Value} (hf : ∀ x y c x' y', x.val η = some x' → y.val η = some y' → f x y = some c → ∃ v, c.val η = some v ∧ (g x' y').run P w = .ok v w) :
    ∀ {l : List CV} {x c : CV} {x' : Value} {l' : List Value}, x.val η = some x' → CV.vals η l = some l' → foldO f x l = some c → ∃ v, c.val η = some v ∧ (l'.foldlM g x').run P w = .ok v w
  | [], x, c, x', l', hx, hl, h => by
    simp [CV.vals] at hl; subst hl
    simp [foldO] at h; subst h
    exact ⟨x', hx, by simp⟩
  | y :: l, x, c, x', l', hx, hl, h => by
    simp only [CV.vals, Option.bind_eq_some_iff, Option.map_eq_some_iff] at hl
    obtain ⟨y', hy, l'', hl', rfl⟩ := hl
    simp only [foldO, Option.bind_eq_some_iff] at h
    obtain ⟨z, hz, h⟩ := h
    obtain ⟨z', hz', hr⟩ := hf _ _ _ _ _ hx hy hz
    obtain ⟨v, hv, hr'⟩ := foldO_sound hf hz' hl' h
    exact ⟨v, hv, by simp [List.foldlM_cons, hr, hr']⟩

/- maps -/
theorem keyC_sound {e : Bool} : ∀ {d : Nat} {t : TypeId} {k : CV} {k' : Value} (n : Nat), k.val η = some k' → keyC P d t k = true → d ≤ n → (Instr.checkKey e n t k').run P w = .ok () w
  | 0, t, k, k', n, hk, h, hn => by simp [keyC] at h
  | d + 1, t, k, k', n, hk, h, hn => by
    obtain ⟨n, rfl⟩ : ∃ m, n = m + 1 := ⟨n - 1, by omega⟩
    unfold keyC at h
    split at h
    · rename_i hu; rw [val_bool hk]; simp [Instr.checkKey, underlying, hu]
    · rename_i hu; rw [val_int hk]; simp [Instr.checkKey, underlying, hu]
    · rename_i hu; rw [val_str hk]; simp [Instr.checkKey, underlying, hu]
    · rename_i fs cs hu
      obtain ⟨l, hl, rfl⟩ := vals_agg hk
      simp only [Instr.checkKey, Sem.run_bind, und_run hu, Result.andThen_ok]
      rw [← Array.forIn_toList]
      have hall := List.all_eq_true.1 h
      generalize fs.toList = fl at hall
      induction fl with
      | nil => simp
      | cons f fl ih =>
        have hf := hall f (by simp)
        split at hf
        · rename_i c hc
          obtain ⟨v, hv, hr⟩ := partC_sound hl hc w
          have hrec := keyC_sound (e := e) n hv hf (by omega)
          simp only [List.forIn_cons, Sem.run_bind]
          have ih' := ih (fun g hg => hall g (by simp [hg]))
          by_cases hname : f.name = "_"
          · simp only [hname, ne_eq, not_true_eq_false, if_false, Sem.run_pure, Result.andThen_ok]
            exact ih'
          · simp only [ne_eq, hname, not_false_eq_true, if_true, Sem.run_bind, hr, Result.andThen_ok, hrec, Sem.run_pure]
            exact ih'
        · cases hf
    · cases h
end
end Go.K
