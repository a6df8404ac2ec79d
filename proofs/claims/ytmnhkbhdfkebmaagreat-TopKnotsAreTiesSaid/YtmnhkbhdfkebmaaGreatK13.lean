/- Two functions of the library without a body, as a hook: counting and finding a byte. A range over a map, in whatever order: one step in the model's world. And a memory that is made anew. A memory that is made anew: the old blocks, and one of the new ones. -/
import Derived.Test.YtmnhkbhdfkebmaaGreatK12
import Derived.Laws.Sem
import Derived.Maps.RangeRun

set_option linter.unusedSimpArgs false
set_option linter.unusedVariables false

namespace Go.K
set_option linter.unusedSimpArgs false
set_option linter.unusedVariables false

def countI (s : ByteArray) (c : Int) : Int := s.foldl (fun n x => if x == c.toNat.toUInt8 then n + 1 else n) (0 : Nat)
def indexI (s : ByteArray) (c : Int) : Int := match (List.range s.size).find? fun i => s[i]! == c.toNat.toUInt8 with
  | some i => (i : Nat)
  | none => -1
def extC (fc fi : Nat) : CallFn := fun f args H =>
  match args with
  | [.str s, .int .u8 c] => match Nat.beq f fc with
    | true => some (.int .i64 (countI s c), H)
    | false => match Nat.beq f fi with
      | true => some (.int .i64 (indexI s c), H)
      | false => none
  | _ => none

structure ExtIs (P : Program) (f : Nat) (e : Array Value → Sem Value) : Prop where
  fn : ∃ fn, P.funcs[f]? = some fn ∧ (fn.name == "runtime.NumGoroutine") = false ∧ fn.body.isNone = true ∧ Extern.findNext fn = none ∧ Extern.find fn = some e

theorem ext_run {P : Program} {f : Nat} {e : Array Value → Sem Value} {as : Array Value} {w : World} {v : Value} (h : ExtIs P f e) (he : (e as).run P w = .ok v w) : (callFunc f as).run P w = .ok (.value v) w := by
  obtain ⟨fn, h1, h2, h3, h4, h5⟩ := h.fn
  simp only [callFunc, Sem.run_bind, run_program, Result.andThen_ok, h1, h2, h3, h4, h5, run_mark, Bool.false_eq_true, if_false, if_true, he, Sem.run_pure]

theorem extC_ok {P : Program} {fc fi : Nat} (hc : ExtIs P fc Extern.BytealgCount.count) (hi : ExtIs P fi Extern.BytealgIndexByte.indexByte) : CallOK P (extC fc fi) := by
  intro f args H r H' h
  unfold extC at h
  split at h
  · rename_i s c
    have hv : ∀ {η : Eta} {vs : List Value}, CV.vals η [.str s, .int .u8 c] = some vs → vs = [.string s, .int .u8 c] := by
      intro η vs hvs
      simp [CV.vals, CV.val] at hvs
      exact hvs.symm
    split at h
    · rename_i hf
      have := Nat.eq_of_beq_eq_true hf
      subst this
      simp only [Option.some.injEq, Prod.mk.injEq] at h
      obtain ⟨rfl, rfl⟩ := h
      refine ⟨Grows.refl _, fun η w vs hH hvs => .inr ⟨.int .i64 (countI s c), w, ext_run hc ?_, η, _, rfl, rfl, hH, Keeps.refl ..⟩⟩
      rw [hv hvs]
      rfl
    · split at h
      · rename_i hf
        have := Nat.eq_of_beq_eq_true hf
        subst this
        simp only [Option.some.injEq, Prod.mk.injEq] at h
        obtain ⟨rfl, rfl⟩ := h
        refine ⟨Grows.refl _, fun η w vs hH hvs => .inr ⟨.int .i64 (indexI s c), w, ext_run hi ?_, η, _, rfl, rfl, hH, Keeps.refl ..⟩⟩
        rw [hv hvs]
        show (match (List.range s.size).find? fun i => s[i]! == c.toNat.toUInt8 with
          | some i => (pure (goInt i) : Sem Value)
          | none => pure (goInt (-1))).run P w = _
        unfold indexI
        cases (List.range s.size).find? fun i => s[i]! == c.toNat.toUInt8 with
        | none => rfl
        | some i => rfl
      · cases h
  · cases h
theorem extC_hok (fc fi : Nat) : CallHok (extC fc fi) := by
  intro f args H r H' h
  unfold extC at h
  split at h
  · split at h
    · simp only [Option.some.injEq, Prod.mk.injEq] at h; rw [← h.2]; exact Hok.refl _
    · split at h
      · simp only [Option.some.injEq, Prod.mk.injEq] at h; rw [← h.2]; exact Hok.refl _
      · cases h
  · cases h
end Go.K

namespace Go.K
set_option linter.unusedSimpArgs false
set_option linter.unusedVariables false
section
variable {P : Program} {η : Eta} {H : Heap} {w : World}

theorem entryVals_mem : ∀ {es : List (CV × CV × Nat)} {l : List MapEntry} {e : MapEntry}, entryVals η es = some l → e ∈ l → ∃ k v, (k, v, e.born) ∈ es ∧ k.val η = some e.key ∧ v.val η = some e.val
  | [], l, e, h, hm => by simp [entryVals] at h; subst h; simp at hm
  | (k, v, b) :: es, l, e, h, hm => by
    simp only [entryVals, Option.bind_eq_some_iff, Option.map_eq_some_iff] at h
    obtain ⟨k', hk, v', hv, l', hl, rfl⟩ := h
    rcases List.mem_cons.1 hm with rfl | hm
    · exact ⟨k, v, List.mem_cons_self .., hk, hv⟩
    · obtain ⟨k2, v2, h1, h2, h3⟩ := entryVals_mem hl hm
      exact ⟨k2, v2, List.mem_cons_of_mem _ h1, h2, h3⟩
theorem entryVals_born : ∀ {es : List (CV × CV × Nat)} {l : List MapEntry} {e : MapEntry}, entryVals η es = some l → e ∈ l → ∃ c ∈ es, c.2.2 = e.born := fun h hm => by
  obtain ⟨k, v, h1, _⟩ := entryVals_mem h hm
  exact ⟨_, h1, rfl⟩

/-- The next entry, whichever it is. -/
theorem next_any (hH : HRel η H w) {r m since c0 clock : Nat} {seen : List Nat} {es : List (CV × CV × Nat)} (hr : H.get r = some (.mapIter (some m) since seen c0)) (hm : H.get m = some (.map es clock)) (hold : ∀ e ∈ es, e.2.2 < since) (hsc : since ≤ c0) {ty : TypeId} {x' : Value} (hx : (CV.ptr r 0).val η = some x') :
    (leftC seen es = [] ∧ (Instr.next x' false ty).run P w = .ok (.tuple #[.bool false]) w) ∨
    ∃ k v b k' v' w', (k, v, b) ∈ leftC seen es ∧ (Instr.next x' false ty).run P w = .ok (.tuple #[.bool true, k', v']) w' ∧ k.val η = some k' ∧ v.val η = some v' ∧ HRel η (H.put r (.mapIter (some m) since (seen ++ [b]) clock)) w' ∧ Keeps η H w η w' := by
  obtain ⟨x, hrx, h0, m', hm', hw⟩ := hH.obj _ _ hr
  obtain ⟨z, hz, rfl⟩ := hm'
  obtain ⟨z', hz', l, hl, hwm⟩ := hH.obj _ _ hm
  rw [hz] at hz'; injection hz' with hz'; subst hz'
  have hx' : x' = .pointer (some ⟨x.blk, 0, none⟩) := by
    simp only [CV.val, hrx, Option.map_some, Option.some.injEq, h0] at hx
    exact hx.symm
  subst hx'
  have hleft := left_filter seen hl
  rcases run_next_at (P := P) w ty x.blk z.blk since c0 seen.toArray l.toArray clock hw hwm (fun e he => by
      obtain ⟨c, hc, hb⟩ := entryVals_born hl (by simpa using he)
      rw [← hb]; exact hold c hc) hsc with ⟨hs, hrun⟩ | ⟨e, he, w1, hal, hrun⟩
  · left
    refine ⟨?_, hrun⟩
    have : (l.filter fun e => !seen.toArray.contains e.born) = [] := by
      unfold leftOf at hs
      rw [List.filter_toArray] at hs
      exact List.length_eq_zero_iff.1 (by simpa using hs)
    rw [this] at hleft
    have := entryVals_length hleft
    exact List.length_eq_zero_iff.1 (by simpa using this.symm)
  · right
    have he' : e ∈ l.filter fun e => !seen.toArray.contains e.born := by
      unfold leftOf at he
      rw [List.filter_toArray] at he
      simpa using he
    obtain ⟨k, v, h1, h2, h3⟩ := entryVals_mem hleft he'
    have hH1 : HRel η H w1 ∧ ∀ w', Keeps η H w1 η w' → Keeps η H w η w' := by
      rcases hal with rfl | rfl
      · exact ⟨hH, fun _ h => h⟩
      · exact ⟨rel_drawn hH, fun _ h => keeps_drawn h⟩
    obtain ⟨hH1, hK1⟩ := hH1
    have hw1 : w1.heap[x.blk]? = some (.mapIter (some z.blk) since seen.toArray c0) := by rcases hal with rfl | rfl <;> exact hw
    obtain ⟨w', hw', hrel, hkp⟩ := setObj_sound (P := P) (o' := .mapIter (some m) since (seen ++ [e.born]) clock) (obj' := .mapIter (some z.blk) since (seen ++ [e.born]).toArray clock) hH1 hr hrx rfl rfl hw1 (by simp)
      (fun w' hw' => ⟨h0, some z.blk, ⟨z, hz, rfl⟩, hw'⟩)
    have hset := run_setObj_at (P := P) hw1 (.mapIter (some z.blk) since (seen ++ [e.born]).toArray clock)
    rw [hset] at hw'
    injection hw' with _ hw'
    refine ⟨k, v, e.born, e.key, e.val, w', h1, ?_, h2, h3, hrel, hK1 _ hkp⟩
    rw [hrun, ← hw']
    simp

/-- As an operation. -/
theorem next_op {nt : Nat} {env : Env} {a : Act} (ha : ARel η nt env a) (hH : HRel η H w) {x : Operand} {r m since c0 clock : Nat} {seen : List Nat} {es : List (CV × CV × Nat)} (hx : evC env x = some (.ptr r 0)) (hr : H.get r = some (.mapIter (some m) since seen c0)) (hm : H.get m = some (.map es clock)) (hold : ∀ e ∈ es, e.2.2 < since) (hsc : since ≤ c0)
    {o : Oper} (ho : o.op = .next x false) {K : Act → World → Prop} {Q : Exit → Act → World → Prop}
    (h0 : leftC seen es = [] → K (a.put o.dst (.tuple #[.bool false])) w)
    (h1 : ∀ k v b k' v' w', (k, v, b) ∈ leftC seen es → k.val η = some k' → v.val η = some v' → HRel η (H.put r (.mapIter (some m) since (seen ++ [b]) clock)) w' → Keeps η H w η w' → K (a.put o.dst (.tuple #[.bool true, k', v'])) w') :
    o.wp P a w K Q := by
  obtain ⟨dst, op, type, pos, after, guard⟩ := o
  simp only at ho h0 h1
  subst ho
  have hv := evC_sound ha x _ hx
  unfold Oper.wp
  rcases next_any (P := P) (ty := type) hH hr hm hold hsc hv with ⟨hl, hrun⟩ | ⟨k, v, b, k', v', w', hb, hrun, hk, hv', hrel, hkp⟩
  · have : (execOp a.eval ⟨dst, .next x false, type, pos, after, guard⟩).run P w = .ok (.value (.tuple #[.bool false])) w := by
      simp only [execOp, Sem.run_bind, hrun, Result.andThen_ok, Sem.run_pure]
    rw [this, Oper.upon_value]
    exact h0 hl
  · have : (execOp a.eval ⟨dst, .next x false, type, pos, after, guard⟩).run P w = .ok (.value (.tuple #[.bool true, k', v'])) w' := by
      simp only [execOp, Sem.run_bind, hrun, Result.andThen_ok, Sem.run_pure]
    rw [this, Oper.upon_value]
    exact h1 k v b k' v' w' hb hk hv' hrel hkp
end
end Go.K

namespace Go.K
set_option linter.unusedSimpArgs false
set_option linter.unusedVariables false

theorem ORel.two {η0 η1 : Eta} {x : Loc} {w0 w1 : World} {o : CObj} (h0 : ORel η0 x w0 o) (h1 : ORel η1 x w1 o) (hle : η0.le η1) : ORel η0 x w1 o := by
  cases o with
  | cells cs elem fam =>
    obtain ⟨pre0, l0, rest0, fr0, a0, b0⟩ := h0
    obtain ⟨pre, l, rest, fr, a, b⟩ := h1
    have := CV.vals_mono hle _ _ a0
    rw [a] at this; injection this with this; subst this
    exact ⟨pre, l, rest, fr, a0, b⟩
  | map es clock =>
    obtain ⟨l0, a0, b0⟩ := h0
    obtain ⟨l, a, b⟩ := h1
    have := entryVals_mono hle _ _ a0
    rw [a] at this; injection this with this; subst this
    exact ⟨l, a0, b⟩
  | mapIter m since seen stepped =>
    obtain ⟨z0, m0, a0, b0⟩ := h0
    obtain ⟨z1, m1, a1, b1⟩ := h1
    refine ⟨z1, m1, ?_, b1⟩
    cases m with
    | none => exact a1
    | some b =>
      obtain ⟨y0, hy0, e0⟩ := a0
      obtain ⟨y1, hy1, e1⟩ := a1
      have := hle _ _ hy0
      rw [hy1] at this; injection this with this; subst this
      exact ⟨_, hy0, e1⟩
  | strIter s pos => exact h1
  | look cs =>
    obtain ⟨pre0, l0, rest0, elem0, fr0, a0, b0⟩ := h0
    obtain ⟨pre, l, rest, elem, fr, a, b⟩ := h1
    have := CV.vals_mono hle _ _ a0
    rw [a] at this; injection this with this; subst this
    exact ⟨pre, l, rest, elem, fr, a0, b⟩

/-- Nothing new is told. -/
theorem canon0 {η0 η1 : Eta} {H0 H1 : Heap} {w0 w1 : World} (hH0 : HRel η0 H0 w0) (m : Moved η0 H0 w0 η1 H1 w1) (hx : Ext H0.next H0 H1) : Moved η0 H0 w0 η0 H0 w1 := by
  have hlt : ∀ b o, H0.get b = some o → b < H0.next := fun b o h => by
    obtain ⟨x, hx, _⟩ := hH0.obj b o h
    exact hH0.dom b x hx
  refine ⟨⟨fun b o hb => ?_, hH0.dom, hH0.inj, hH0.fam, hH0.famlt⟩, ⟨m.keeps.os, m.keeps.tape, m.keeps.output, m.keeps.size, m.keeps.block, η0.le_refl, fun b x h1 h2 => by rw [h1] at h2; cases h2⟩, Grows.refl _⟩
  obtain ⟨x, hx0, r0⟩ := hH0.obj b o hb
  obtain ⟨x', hx', r1⟩ := m.rel.obj b o (hx.2 b o (hlt b o hb) hb)
  rw [m.keeps.le _ _ hx0] at hx'; injection hx' with hx'; subst hx'
  exact ⟨x, hx0, r0.two r1 m.keeps.le⟩

theorem canon {η0 η1 : Eta} {H0 H1 : Heap} {w0 w1 : World} (hH0 : HRel η0 H0 w0) (m : Moved η0 H0 w0 η1 H1 w1) (hx : Ext H0.next H0 H1) {b1 f p e : Nat} {cs : List CV} {x1 : Loc} (hg : H1.get b1 = some (.cells cs e (some (f, p)))) (hx1 : η1 b1 = some x1) (hf : H0.next ≤ f) (hb : f ≤ b1) (hc : CV.flats cs = true) :
    Moved η0 H0 w0 (η0.ins H0.next x1) (H0.newF (.cells cs e (some (H0.next, 0)))) w1 := by
  have m0 := canon0 hH0 m hx
  have hlt : ∀ b o, H0.get b = some o → b < H0.next := fun b o h => by
    obtain ⟨x, hx, _⟩ := hH0.obj b o h
    exact hH0.dom b x hx
  have hn : η0 H0.next = none := by
    cases e : η0 H0.next with
    | none => rfl
    | some y => exact absurd (hH0.dom _ _ e) (Nat.lt_irrefl _)
  have hb0 : η0 b1 = none := by
    cases e : η0 b1 with
    | none => rfl
    | some y => exact absurd (hH0.dom _ _ e) (by omega)
  have hle : η0.le (η0.ins H0.next x1) := Eta.le_ins hn
  have hnew : ∀ b, b ≠ H0.next → (H0.newF (.cells cs e (some (H0.next, 0)))).get b = H0.get b := fun b h => by rw [Heap.newF_get, if_neg h]
  have hmem : ∀ g, (H0.newF (.cells cs e (some (H0.next, 0)))).mem g = if g = H0.next then H0.mem H0.next ++ [H0.next] else H0.mem g := by
    intro g
    show ((H0.fams.set H0.next (H0.mem H0.next ++ [H0.next])).get g).getD [] = _
    rw [Tr.get_set]
    split <;> rfl
  -- an old block against the new one
  have cross : ∀ (b' : Nat) (o' : CObj) (x' : Loc), H0.get b' = some o' → η0 b' = some x' → x1.blk = x'.blk → False := by
    intro b' o' x' ho' hx' e'
    have hlt' := hlt b' o' ho'
    obtain ⟨g, q, q', h1, h2, _⟩ := m.rel.inj b1 b' _ o' x1 x' hg (hx.2 b' o' hlt' ho') hx1 (m.keeps.le _ _ hx') e' (by omega)
    simp only [CObj.fam, Option.some.injEq, Prod.mk.injEq] at h1
    have := hH0.famlt b' o' g q' ho' h2
    omega
  refine ⟨⟨fun b o hb' => ?_, fun b x hbx => ?_, fun b b' o o' x x' ho ho' hbx hbx' e' hne => ?_, fun b o g q ho hf' => ?_, fun b o g q ho hf' => ?_⟩, ⟨m.keeps.os, m.keeps.tape, m.keeps.output, m.keeps.size, m.keeps.block, hle, fun b x h1 h2 => ?_⟩, ⟨Nat.le_succ _, fun b o ho => ?_⟩⟩
  · by_cases e1 : b = H0.next
    · subst e1
      rw [Heap.newF_get, if_pos rfl] at hb'
      injection hb' with hb'; subst hb'
      refine ⟨x1, Eta.ins_same .., ?_⟩
      obtain ⟨x, hx', r⟩ := m.rel.obj b1 _ hg
      rw [hx1] at hx'; injection hx' with hx'; subst hx'
      obtain ⟨pre, l, rest, fr, h1, h2, h3, h4, _, h6⟩ := r
      exact ⟨pre, l, rest, fr, by rw [← h1]; exact CV.flats_vals _ _ _ hc, h2, h3, h4, fun h => (by cases h), h6⟩
    · rw [hnew b e1] at hb'
      obtain ⟨x, hx', r⟩ := m0.rel.obj b o hb'
      exact ⟨x, hle _ _ hx', r.mono hle rfl⟩
  · show b < H0.next + 1
    by_cases e1 : b = H0.next
    · omega
    · rw [Eta.ins_ne _ _ e1] at hbx
      have := hH0.dom b x hbx
      omega
  · by_cases e1 : b = H0.next
    · have e2 : b' ≠ H0.next := fun e2 => hne (e1.trans e2.symm)
      rw [e1, Eta.ins_same] at hbx; injection hbx with hbx; subst hbx
      rw [hnew b' e2] at ho'
      rw [Eta.ins_ne _ _ e2] at hbx'
      exact (cross b' o' x' ho' hbx' e').elim
    · rw [hnew b e1] at ho
      rw [Eta.ins_ne _ _ e1] at hbx
      by_cases e2 : b' = H0.next
      · rw [e2, Eta.ins_same] at hbx'; injection hbx' with hbx'; subst hbx'
        exact (cross b o x ho hbx e'.symm).elim
      · rw [hnew b' e2] at ho'
        rw [Eta.ins_ne _ _ e2] at hbx'
        exact hH0.inj b b' o o' x x' ho ho' hbx hbx' e' hne
  · rw [hmem]
    by_cases e1 : b = H0.next
    · rw [e1, Heap.newF_get, if_pos rfl] at ho
      injection ho with ho; subst ho
      simp only [CObj.fam, Option.some.injEq, Prod.mk.injEq] at hf'
      rw [if_pos hf'.1.symm, e1]; simp
    · rw [hnew b e1] at ho
      have := hH0.fam b o g q ho hf'
      split
      · rename_i e2; rw [e2] at this; exact List.mem_append_left _ this
      · exact this
  · show g < H0.next + 1
    by_cases e1 : b = H0.next
    · rw [e1, Heap.newF_get, if_pos rfl] at ho
      injection ho with ho; subst ho
      simp only [CObj.fam, Option.some.injEq, Prod.mk.injEq] at hf'
      omega
    · rw [hnew b e1] at ho
      have := hH0.famlt b o g q ho hf'
      omega
  · by_cases e1 : b = H0.next
    · subst e1
      rw [Eta.ins_same] at h2; injection h2 with h2; subst h2
      exact ⟨Nat.le_refl _, (m.keeps.fresh b1 x1 hb0 hx1).2⟩
    · rw [Eta.ins_ne _ _ e1, h1] at h2; cases h2
  · by_cases e1 : b = H0.next
    · right; omega
    · rw [hnew b e1] at ho; exact .inl ⟨o, ho, rfl⟩

/-- A code with another one behind it. -/
def behind : Code → Code → Code
  | .seq a b, r => .seq a (behind b r)
  | c, r => .seq c r
section
variable {P : Program} {X : CallFn}
theorem behind_wp (hX : CallOK P X) (hm : P.follows .mixedOrders = true) {nt : Nat} {r : Code} : ∀ (c : Code) {env env' : Env} {H H' : Heap}, go P X nt c env H = some (.normal, env', H') → ∀ {η : Eta} {a : Act} {w : World}, ARel η nt env a → HRel η H w → ∀ {Q : Exit → Act → World → Prop},
    (∀ η' a' w', ARel η' nt env' a' → Moved η H w η' H' w' → r.wp P Q a' w') → (behind c r).wp P Q a w := by
  have base : ∀ (c : Code) {env env' : Env} {H H' : Heap}, go P X nt c env H = some (.normal, env', H') → ∀ {η : Eta} {a : Act} {w : World}, ARel η nt env a → HRel η H w → ∀ {Q : Exit → Act → World → Prop},
      (∀ η' a' w', ARel η' nt env' a' → Moved η H w η' H' w' → r.wp P Q a' w') → (Code.seq c r).wp P Q a w := by
    intro c env env' H H' h η a w ha hH Q hQ
    exact wp_seq ((go_sound hX hm _ _ _ _ _ _ _ h).2 η a w ha hH _ hQ)
  intro c
  induction c with
  | seq x y _ ih =>
    intro env env' H H' h η a w ha hH Q hQ
    rw [go_seq] at h
    revert h
    generalize hx : go P X nt x env H = R
    rcases R with _ | ⟨e, e1, H1⟩
    · intro h; cases h
    · cases e with
      | normal =>
        rw [andThen_normal]
        intro h
        show (Code.seq x (behind y r)).wp P Q a w
        refine wp_seq ((go_sound hX hm _ _ _ _ _ _ _ hx).2 η a w ha hH _ ?_)
        intro η1 a1 w1 ha1 m1
        exact ih h ha1 m1.rel (fun η2 a2 w2 ha2 m2 => hQ η2 a2 w2 ha2 (Moved.trans hH m1 m2))
      | exit i => intro h; cases h
      | ret => intro h; cases h
  | _ => exact base _
end
end Go.K
