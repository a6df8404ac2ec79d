/- Operations that write memory (4): append, copy, clear, conversions. Append, copy, clear in clean memory. Copy, clear, conversions; one theorem for the loud operations that call nothing. -/
import Derived.Test.YtmnhkbhdfkebmaaGreatK4
import Derived.Laws.Append

set_option linter.unusedSimpArgs false
set_option linter.unusedVariables false

namespace Go.K
set_option linter.unusedSimpArgs false
set_option linter.unusedVariables false

/-- How many elements a value has that is appended or copied, and their cells. -/
def elemsC (H : Heap) (sz : Nat) (x : CV) : Option (Nat × List CV) :=
  match x with
  | .nilSlice => some (0, [])
  | .slice b off len cap => match len with
    | 0 => some (0, [])
    | n + 1 => match cap with
      | .tailE _ _ => none
      | _ => match H.get b with
        | some (.cells cs _ _) => (takeE ((n + 1) * sz) (cs.drop off)).map fun l => (n + 1, l)
        | _ => none
  | .str s => match Nat.beq sz 1 with
    | true => some (s.size, byteCells s)
    | false => none
  | _ => none

section
variable {P : Program} {η : Eta} {H : Heap} {w : World}

theorem byteCells_vals (s : ByteArray) : CV.vals η (byteCells s) = some (s.data.toList.map fun b => Value.int .u8 b.toNat) := by
  unfold byteCells
  induction s.data.toList with
  | nil => rfl
  | cons b l ih => simp only [List.map_cons, CV.vals, CV.val, ih, Option.bind_some, Option.map_some]; rfl

theorem firstCells_block (hH : HRel η H w) {b off sz n : Nat} {cs : List CV} {e : TypeId} {f : Option (Nat × Nat)} {l : List CV} {x : Loc} (hb : H.get b = some (.cells cs e f)) (hx : η b = some x)
    (hl : takeE (n * sz) (cs.drop off) = some l) (c1 c2 : Nat) : ∃ l', CV.vals η l = some l' ∧ l'.length = n * sz ∧ (Builtin.firstCells sz n (.slice (some ⟨x.blk, x.base + off, none⟩) c1 c2)).run P w = .ok l'.toArray w := by
  obtain ⟨y, L, hy, hL, _, hc⟩ := cells_there hH hb
  rw [hx] at hy; injection hy with hy; subst hy
  obtain ⟨rfl, hle⟩ := takeE_eq hl
  have hv := CV.vals_take (n * sz) (CV.vals_drop off hL)
  have hlen : ((L.drop off).take (n * sz)).length = n * sz := by
    have := CV.vals_length hL
    simp only [List.length_take, List.length_drop] at hle ⊢; omega
  refine ⟨_, hv, hlen, ?_⟩
  simp only [Builtin.firstCells]
  exact loadCells_run hlen (fun j v hj => by
    rw [List.getElem?_take] at hj
    split at hj
    · rw [List.getElem?_drop] at hj; rw [Nat.add_assoc]; exact hc _ _ hj
    · cases hj)

theorem elemsC_sound (hH : HRel η H w) {sz : Nat} {x : CV} {x' : Value} {n : Nat} {l : List CV} (hx : x.val η = some x') (h : elemsC H sz x = some (n, l)) :
    ∃ l', CV.vals η l = some l' ∧ (Builtin.lenOf x').run P w = .ok n w ∧ (Builtin.firstCells sz n x').run P w = .ok l'.toArray w ∧ l'.length = n * sz := by
  unfold elemsC at h
  split at h
  · simp only [Option.some.injEq, Prod.mk.injEq] at h
    obtain ⟨rfl, rfl⟩ := h
    simp only [CV.val, Option.some.injEq] at hx; subst hx
    exact ⟨[], rfl, rfl, rfl, by simp⟩
  · rename_i b off len cap
    obtain ⟨a, C, e⟩ := val_slice hx
    split at h
    · simp only [Option.some.injEq, Prod.mk.injEq] at h
      obtain ⟨rfl, rfl⟩ := h
      subst e
      exact ⟨[], rfl, rfl, by simp [Builtin.firstCells, loadCells, loadCellsFrom], by simp⟩
    · rename_i m
      split at h
      · cases h
      rename_i hcap
      split at h
      · rename_i cs e' f hb
        simp only [Option.map_eq_some_iff, Prod.mk.injEq] at h
        obtain ⟨r, hr, rfl, rfl⟩ := h
        have hlen : (Builtin.lenOf x').run P w = .ok (m + 1) w := by subst e; rfl
        -- a slice that has elements lies where it says
        have place : ∃ y, η b = some y ∧ ∃ c2, x' = .slice (some ⟨y.blk, y.base + off, none⟩) (m + 1) c2 := by
          cases cap with
          | exact c => obtain ⟨y, hy, e⟩ := val_exact hx; exact ⟨y, hy, _, e⟩
          | tail s => obtain ⟨y, hy, e⟩ := val_tail hx; exact ⟨y, hy, _, e⟩
          | tailE s o => exact absurd rfl (hcap s o)
        obtain ⟨y, hy, c2, rfl⟩ := place
        obtain ⟨l', hl', hl2, hrun⟩ := firstCells_block (P := P) hH hb hy hr (m + 1) c2
        exact ⟨l', hl', hlen, hrun, hl2⟩
      · cases h
  · rename_i s
    split at h
    · rename_i hsz
      have := Nat.eq_of_beq_eq_true hsz
      subst this
      simp only [Option.some.injEq, Prod.mk.injEq] at h
      obtain ⟨rfl, rfl⟩ := h
      rw [val_str hx]
      refine ⟨_, byteCells_vals s, rfl, ?_, by rw [List.length_map, Array.length_toList, Nat.mul_one]; rfl⟩
      simp only [Builtin.firstCells, Sem.run_pure]
      congr 1
      have : (s.extract 0 s.size).data = s.data := by
        rw [ByteArray.data_extract]
        exact Array.extract_size
      rw [this]
      apply Array.toList_inj.1
      rw [Array.toList_map]
    · cases h
  · cases h


/- what append is in the world, where it stores and where it grows -/
structure AppendArgs (P : Program) (w : World) (ts : Array TypeId) (xs : Array Value) (e : TypeId) (i : TypeInfo) (base : Option Addr) (sLen sCap : Nat) (x : Value) (n : Nat) : Prop where
  t0 : ∃ t, ts[0]? = some t ∧ P.underlying t = some (.slice e)
  t1 : ∃ t d, ts[1]? = some t ∧ P.underlying t = some d ∧ ∀ k, d ≠ .int k
  info : P.info? e = some i
  arg0 : xs[0]? = some (.slice base sLen sCap)
  arg1 : xs[1]? = some x
  len : (Builtin.lenOf x).run P w = .ok n w

theorem append_in {ts : Array TypeId} {ty : TypeId} {xs : Array Value} {e : TypeId} {i : TypeInfo} {a : Addr} {sLen sCap n : Nat} {x : Value} {new : Array Value} {w' : World} (h : AppendArgs P w ts xs e i (some a) sLen sCap x n)
    (hn : sLen + n ≤ sCap) (hnew : (Builtin.firstCells i.size n x).run P w = .ok new w) (hst : (storeCells (a.add (sLen * i.size)) new.toList).run P w = .ok () w') :
    (Builtin.append_ ts ty xs).run P w = .ok (.slice (some a) (sLen + n) sCap) w' := by
  obtain ⟨⟨t, ht, hu⟩, ⟨t', d, ht', hu', hd⟩, hi, hs, hx, hl⟩ := h
  have hsz : (sizeOf e).run P w = .ok i.size w := by simp [sizeOf, typeInfo, hi]
  simp only [Builtin.append_, ht, ht', hs, hx, Sem.run_bind, und_run hu, und_run hu', Result.andThen_ok, hsz, Sem.run_pure]
  cases d <;> first | (exact absurd rfl (hd _)) | simp only [Bool.false_eq_true, if_false, hl, Result.andThen_ok, hn, if_true, Sem.run_bind, Bool.not_false, hnew, hst, Sem.run_pure]

theorem append_in_nil {ts : Array TypeId} {ty : TypeId} {xs : Array Value} {e : TypeId} {i : TypeInfo} {sLen sCap n : Nat} {x : Value} {new : Array Value} (h : AppendArgs P w ts xs e i none sLen sCap x n)
    (hn : sLen + n ≤ sCap) (hnew : (Builtin.firstCells i.size n x).run P w = .ok new w) : (Builtin.append_ ts ty xs).run P w = .ok (.slice none (sLen + n) sCap) w := by
  obtain ⟨⟨t, ht, hu⟩, ⟨t', d, ht', hu', hd⟩, hi, hs, hx, hl⟩ := h
  have hsz : (sizeOf e).run P w = .ok i.size w := by simp [sizeOf, typeInfo, hi]
  simp only [Builtin.append_, ht, ht', hs, hx, Sem.run_bind, und_run hu, und_run hu', Result.andThen_ok, hsz, Sem.run_pure]
  cases d <;> first | (exact absurd rfl (hd _)) | simp only [Bool.false_eq_true, if_false, hl, Result.andThen_ok, hn, if_true, Sem.run_bind, Bool.not_false, hnew, Sem.run_pure]

def drawn (w : World) : World := { w with drawn := w.drawn + 1 }

theorem append_grow {ts : Array TypeId} {ty : TypeId} {xs : Array Value} {e : TypeId} {i : TypeInfo} {base : Option Addr} {sLen sCap n : Nat} {x : Value} {old new : Array Value} {z : Value} (h : AppendArgs P w ts xs e i base sLen sCap x n)
    (hn : sCap < sLen + n) (hb : 2 * (sLen + n) * i.bytes ≤ 140737488355328) (hneed : sLen + n ≤ 140737488355328) (hold : (Builtin.firstCells i.size sLen (.slice base sLen sCap)).run P (drawn w) = .ok old (drawn w))
    (hnew : (Builtin.firstCells i.size n x).run P (drawn w) = .ok new (drawn w)) (hz : i.zero = some z) :
    ∃ newCap, sLen + n ≤ newCap ∧ (Builtin.append_ ts ty xs).run P w =
      .ok (.slice (some ⟨w.heap.size, 0, none⟩) (sLen + n) newCap) (pushed (drawn w) (.cells (old ++ new ++ Builtin.zeroCells z.cells (newCap - (sLen + n))) e)) := by
  obtain ⟨⟨t, ht, hu⟩, ⟨t', d, ht', hu', hd⟩, hi, hs, hx, hl⟩ := h
  have hsz : (sizeOf e).run P w = .ok i.size w := by simp [sizeOf, typeInfo, hi]
  have hzv : ∀ w, (zeroValue e).run P w = .ok z w := fun w => by simp [zeroValue, typeInfo, hi, hz]
  have hle := nextslicecap_le hn
  have hbytes : ¬ Builtin.nextslicecap (sLen + n) sCap * i.bytes > 2 ^ 48 := by
    have := Nat.mul_le_mul_right i.bytes hle
    omega
  have hmax : ¬ (((sLen + n : Nat) : Int) > IntKind.i64.max) := by
    have : IntKind.i64.max = 9223372036854775807 := by decide
    omega
  refine ⟨(Question.appendCap (sLen + n) sCap e).cut (w.tape w.drawn (.appendCap (sLen + n) sCap e)), Nat.le_add_right _ _, ?_⟩
  have hnot : ¬ sLen + n ≤ sCap := by omega
  simp only [Builtin.append_, ht, ht', hs, hx, Sem.run_bind, und_run hu, und_run hu', Result.andThen_ok, hsz, Sem.run_pure]
  have hchoose : (choose (.appendCap (sLen + n) sCap e)).run P w = .ok ((Question.appendCap (sLen + n) sCap e).cut (w.tape w.drawn (.appendCap (sLen + n) sCap e))) (drawn w) := by
    simp [run_choose, Question.forced, drawn]
  cases d <;> first | (exact absurd rfl (hd _)) | (
    simp only [Bool.false_eq_true, if_false, hl, Result.andThen_ok, hnot, Sem.run_bind, typeInfo, run_program, hi, Sem.run_pure, hmax, false_and, hbytes, hchoose, run_askRoom, hold, Bool.not_false, if_true, hnew, hzv, newRow, run_newObj]
    rfl)

end
end Go.K

namespace Go.K
set_option linter.unusedSimpArgs false
set_option linter.unusedVariables false

/-- What a slice becomes whose elements are moved into an array of their own. -/
def growNew (H : Heap) (e : TypeId) (need sz : Nat) (cs : List CV) : CV × Heap :=
  (.slice H.next 0 need (.tail sz), H.newF (.cells cs e (some (H.next, 0))))
/-- What a slice becomes at whose end there may or may not be room. -/
def growAt (H : Heap) (b off len n sz : Nat) (e : TypeId) (new : List CV) : Option (CV × Heap) :=
  match H.get b with
  | some (.cells cs e' (some (f, p))) => match Nat.beq e' e with
    | true => match Nat.ble (off + len * sz) cs.length && Nat.blt 0 n with
      | true => (takeE (len * sz) (cs.drop off)).map fun old =>
        (.slice H.next 0 (len + n) (.tail sz), (H.upd b (.cells (cs.take (off + len * sz)) e (some (f, p))) (off + len * sz)).newF (.cells (old ++ new) e (some (f, p + off))))
      | false => none
    | false => none
  | _ => none

def tailOf (sz len : Nat) : Cap → Option Bool
  | .exact _ => some false
  | .tail s => match Nat.beq s sz with
    | true => some true
    | false => none
  | .tailE s _ => match Nat.beq s sz && Nat.beq len 0 with
    | true => some true
    | false => none

def appendC (P : Program) (t0 t1 : TypeId) (H : Heap) (s x : CV) : Option (CV × Heap) :=
  match P.underlying t0, P.underlying t1 with
  | some (.slice _), some (.int _) => none
  | some (.slice e), some _ => match P.info? e with
    | some i => match i.size, zeroC P e with
      | sz' + 1, some z => (elemsC H (sz' + 1) x).bind fun (n, new) => match Nat.beq z.length (sz' + 1) && new.all CV.single with
        | false => none
        | true => match s with
          | .nilSlice => match n with
            | 0 => some (.nilSlice, H)
            | m + 1 => match Nat.ble (2 * (m + 1) * i.bytes) 140737488355328 && Nat.ble (m + 1) 140737488355328 with
              | true => some (growNew H e (m + 1) (sz' + 1) new)
              | false => none
          | .slice b off len cap => match tailOf (sz' + 1) len cap, roomC H b off (sz' + 1) cap with
            | some tl, some c => match Nat.ble (len + n) c with
              | true => match n with
                | 0 => some (s, H)
                | _ + 1 => (writeC H b (off + len * (sz' + 1)) new).map fun H' => (.slice b off (len + n) (match tl with | true => .tail (sz' + 1) | false => cap), H')
              | false => match Nat.ble (2 * (len + n) * i.bytes) 140737488355328 && Nat.ble (len + n) 140737488355328 with
                | true => match tl with
                  | true => growAt H b off len n (sz' + 1) e new
                  | false => (elemsC H (sz' + 1) s).map fun (_, old) => growNew H e (len + n) (sz' + 1) (old ++ new)
                | false => none
            | _, _ => none
          | _ => none
      | _, _ => none
    | none => none
  | _, _ => none

def copyC (P : Program) (t : TypeId) (H : Heap) (d s : CV) : Option (CV × Heap) :=
  match P.underlying t with
  | some (.slice e) => match szC P e with
    | some (sz + 1) => (elemsC H (sz + 1) s).bind fun (n, cells) => match d with
      | .nilSlice => some (.int .i64 0, H)
      | .slice b off len cap => match cap with
        | .tailE _ _ => none
        | _ => (takeE ((Nat.min n len) * (sz + 1)) cells).bind fun l => (writeC H b off l).map fun H' => (.int .i64 (Nat.min n len), H')
      | _ => none
    | _ => none
  | _ => none

def clearC (P : Program) (t : TypeId) (H : Heap) (x : CV) : Option (CV × Heap) :=
  match P.underlying t, x with
  | some (.slice _), .nilSlice => some (.tuple [], H)
  | some (.slice e), .slice b off len cap => match len with
    | 0 => some (.tuple [], H)
    | _ + 1 => match cap with
      | .tailE _ _ => none
      | _ => (zeroC P e).bind fun z => (writeC H b off (rep len z)).map fun H' => (.tuple [], H')
  | _, _ => none

section
variable {P : Program} {η : Eta} {H : Heap} {w : World}

theorem rel_drawn (hH : HRel η H w) : HRel η H (drawn w) :=
  ⟨fun b o h => let ⟨x, hx, r⟩ := hH.obj b o h; ⟨x, hx, r.mono η.le_refl rfl⟩, hH.dom, hH.inj, hH.fam, hH.famlt⟩

theorem keeps_trans {η1 η2 η3 : Eta} {H1 H2 : Heap} {w1 w2 w3 : World} (hH : HRel η1 H1 w1) (h : Keeps η1 H1 w1 η2 w2) (k : Keeps η2 H2 w2 η3 w3)
    (hn : H1.next ≤ H2.next) (hold : ∀ b o x, (H2.get b = some o ∧ o.isLook = false) → η2 b = some x → (∃ o0 x0 b0, (H1.get b0 = some o0 ∧ o0.isLook = false) ∧ η1 b0 = some x0 ∧ x0.blk = x.blk) ∨ w1.heap.size ≤ x.blk) : Keeps η1 H1 w1 η3 w3 where
  os := k.os.trans h.os
  tape := k.tape.trans h.tape
  output := k.output.trans h.output
  size := Nat.le_trans h.size k.size
  block := by
    intro i hi hno
    rw [k.block i (Nat.lt_of_lt_of_le hi h.size) ?_, h.block i hi hno]
    intro b o x hb hx e
    rcases hold b o x hb hx with ⟨o0, x0, b0, h1, h2, h3⟩ | hge
    · exact hno b0 o0 x0 h1 h2 (h3.trans e)
    · omega
  le := Eta.le_trans h.le k.le
  fresh := by
    intro b x h1 h3
    cases h2 : η2 b with
    | some y =>
      have := k.le b y h2
      rw [h3] at this; injection this with this; subst this
      exact h.fresh b x h1 h2
    | none =>
      obtain ⟨hb, hf⟩ := k.fresh b x h2 h3
      refine ⟨Nat.le_trans hn hb, ?_⟩
      rcases hf with hf | ⟨b0, o0, x0, e1, e2, e3⟩
      · exact .inl (Nat.le_trans h.size hf)
      · rcases hold b0 o0 x0 e1 e2 with ⟨o1, x1, b1, g1, g2, g3⟩ | hge
        · exact .inr ⟨b1, o1, x1, g1, g2, g3.trans e3⟩
        · exact .inl (by omega)

theorem zeroCells_length (z : Array Value) (n : Nat) : (Builtin.zeroCells z n).toList.length = n * z.size := by simp [Builtin.zeroCells]

theorem growNew_sound (hH : HRel η H w) {e : TypeId} {need newCap sz : Nat} {cs : List CV} {l rest : List Value} (hl : CV.vals η cs = some l) (hsz : 0 < sz) (hlen : (l ++ rest).length = newCap * sz) :
    ∃ η', (growNew H e need sz cs).1.val η' = some (.slice (some ⟨w.heap.size, 0, none⟩) need newCap) ∧ HRel η' (growNew H e need sz cs).2 (pushed w (.cells (l ++ rest).toArray e)) ∧
      Keeps η H w η' (pushed w (.cells (l ++ rest).toArray e)) := by
  have hn : η H.next = none := by
    cases e : η H.next with
    | none => rfl
    | some y => exact absurd (hH.dom _ _ e) (Nat.lt_irrefl _)
  refine ⟨η.ins H.next ⟨w.heap.size, 0, (l ++ rest).length⟩, ?_, ?_, ?_⟩
  · simp only [growNew, CV.val, Eta.ins_same, Option.map_some, hlen, Nat.sub_zero, Nat.zero_add, Nat.mul_div_cancel _ hsz]
  · refine hH.newF (fun k ok y hk hy r => r.mono η.le_refl (pushed_lt w _ r.lt)) ?_ ?_ (fun f p e => by simp [CObj.fam] at e; omega)
    · exact ⟨[], l, rest, (0, 0), CV.vals_mono (Eta.le_ins hn) _ _ hl, by rw [pushed_size]; rfl, rfl, rfl, by simp, thaw_zero _⟩
    · intro k ok y hk hy e
      obtain ⟨z, hz, rz⟩ := hH.obj k ok hk
      rw [hy] at hz; injection hz with hz; subst hz
      have := rz.lt
      exact absurd e (by simp; omega)
  · refine ⟨rfl, rfl, rfl, by simp [pushed], fun k hk _ => pushed_lt w _ hk, Eta.le_ins hn, fun b x h1 h2 => ?_⟩
    by_cases e : b = H.next
    · subst e
      rw [Eta.ins_same] at h2; injection h2 with h2; subst h2
      exact ⟨Nat.le_refl _, .inl (Nat.le_refl _)⟩
    · rw [Eta.ins_ne _ _ e, h1] at h2; cases h2

/-- A block is cut short, in clean memory alone; of its family stays what ends before. -/
theorem cut_sound (hH : HRel η H w) {b : Nat} {cs : List CV} {e : TypeId} {f p pos : Nat} (hb : H.get b = some (.cells cs e (some (f, p)))) :
    HRel η (H.upd b (.cells (cs.take pos) e (some (f, p))) pos) w := by
  obtain ⟨x, hx, pre, l, rest, fr, hl, hw, hpre, hlen, hfam, hth⟩ := hH.obj _ _ hb
  refine hH.upd hb hx (fun _ _ => rfl) ⟨_, _, fr, hw, hw, rfl, rfl⟩ ⟨pre, l.take pos, l.drop pos ++ rest, fr, CV.vals_take _ hl, ?_, hpre, ?_, by simp, ?_⟩
  · have : pre ++ l ++ rest = pre ++ l.take pos ++ (l.drop pos ++ rest) := by
      rw [List.append_assoc pre (l.take pos), ← List.append_assoc (l.take pos), List.take_append_drop, List.append_assoc]
    rw [hw, this]
  · rw [← hlen]; simp; omega
  · have : (pre ++ l.take pos ++ (l.drop pos ++ rest)).length = (pre ++ l ++ rest).length := by simp; omega
    rw [this]; exact hth

theorem upd_get_fam {b : Nat} {cs : List CV} {e : TypeId} {f p pos k : Nat} {ok : CObj} (hk : (H.upd b (.cells cs e (some (f, p))) pos).get k = some ok) :
    (k = b ∧ ok = .cells cs e (some (f, p))) ∨ (k ≠ b ∧ H.get k = some ok ∧ (k ∈ H.mem f → keepIn H b (p + pos) k = true)) := by
  simp only [Heap.upd, CObj.fam] at hk
  rw [Heap.get_put] at hk
  split at hk
  · rename_i ek; injection hk with hk; exact .inl ⟨ek, hk.symm⟩
  · rename_i ek
    rw [Heap.trim_get] at hk
    split at hk
    · cases hk
    · rename_i hn
      refine .inr ⟨ek, hk, fun hm => ?_⟩
      cases hkeep : keepIn H b (p + pos) k with
      | true => rfl
      | false => exact absurd ⟨hm, hkeep⟩ hn

/-- The room that there was is taken. -/
theorem growIn_sound (hH : HRel η H w) {b off len n sz : Nat} {cs : List CV} {e : TypeId} {f p : Nat} {old new : List CV} {lnew : List Value} {x : Loc} (hb : H.get b = some (.cells cs e (some (f, p)))) (hx : η b = some x)
    (hend : off + len * sz ≤ cs.length) (hn1 : 0 < n)
    (hold : takeE (len * sz) (cs.drop off) = some old) (hnew : CV.vals η new = some lnew) (hnl : lnew.length = n * sz) (hsz : 0 < sz) (hroom : len + n ≤ (x.m - off) / sz) (hone : ∀ v ∈ lnew, v.oneCell' = true) :
    ∃ w', (storeCells ⟨x.blk, x.base + (off + len * sz), none⟩ lnew).run P w = .ok () w' ∧
      HRel (η.ins H.next ⟨x.blk, x.base + off, x.m - off⟩) ((H.upd b (.cells (cs.take (off + len * sz)) e (some (f, p))) (off + len * sz)).newF (.cells (old ++ new) e (some (f, p + off)))) w' ∧
      Keeps η H w (η.ins H.next ⟨x.blk, x.base + off, x.m - off⟩) w' := by
  have hn : η H.next = none := by
    cases e : η H.next with
    | none => rfl
    | some y => exact absurd (hH.dom _ _ e) (Nat.lt_irrefl _)
  have hnext : (H.upd b (.cells (cs.take (off + len * sz)) e (some (f, p))) (off + len * sz)).next = H.next := Heap.upd_next ..
  obtain ⟨rfl, hle⟩ := takeE_eq hold
  obtain ⟨y, hy, pre, l, rest, fr, hl, hw, hpre, hlen, _, hth⟩ := hH.obj _ _ hb
  rw [hx] at hy; injection hy with hy; subst hy
  have hll := CV.vals_length hl
  have hnsz : 0 < n * sz := Nat.mul_pos hn1 hsz
  have hfit : off + len * sz + n * sz ≤ x.m := by
    have h1 : (len + n) * sz ≤ x.m - off := Nat.le_trans (Nat.mul_le_mul_right sz hroom) (Nat.div_mul_le_self _ _)
    rw [Nat.add_mul] at h1
    omega
  have hlr : l.length + rest.length = x.m := by rw [← hlen]; simp
  generalize hE : off + len * sz = E at *
  obtain ⟨w', hw', hwr, hcells⟩ := storeCells_run (P := P) (off := x.base + E) lnew 0 w (pre ++ l ++ rest) hw (by simp only [List.length_append]; omega) hth hone
  have hform : (pre ++ l ++ rest).take (x.base + E + 0) ++ lnew ++ (pre ++ l ++ rest).drop (x.base + E + 0 + lnew.length) = pre ++ l.take E ++ (lnew ++ (l ++ rest).drop (E + n * sz)) := by
    rw [Nat.add_zero, ← hpre, take_mid _ _ _ (by omega), Nat.add_assoc, hnl, List.append_assoc pre l rest, List.drop_length_add_append]
    simp
  rw [hform] at hcells
  have hlen' : (pre ++ l.take E ++ (lnew ++ (l ++ rest).drop (E + n * sz))).length = (pre ++ l ++ rest).length := by
    simp only [List.length_append, List.length_take, List.length_drop]; omega
  have hH1 : HRel η (H.upd b (.cells (cs.take E) e (some (f, p))) E) w' := by
    refine hH.upd hb hx hwr.other ⟨_, _, fr, hw, hcells, hlen', ?_⟩ ?_
    · rw [← hpre, take_mid pre l rest (by omega), take_mid pre (l.take E) _ (by rw [List.length_take]; omega), List.take_take, Nat.min_self]
    · refine ⟨pre, l.take E, _, fr, CV.vals_take _ hl, hcells, hpre, ?_, by simp, by rw [hlen']; exact hth⟩
      simp only [List.length_append, List.length_take, List.length_drop]; omega
  refine ⟨w', hw', ?_, ?_⟩
  · rw [← hnext]
    refine hH1.newF (fun _ _ _ _ _ r => r) ?_ ?_ ?_
    · refine ⟨pre ++ l.take off, (l.drop off).take (len * sz) ++ lnew, (l ++ rest).drop (E + n * sz), fr, ?_, ?_, ?_, ?_, by simp, ?_⟩
      · exact CV.vals_mono (Eta.le_ins (by rw [hnext]; exact hn)) _ _ (CV.vals_append (CV.vals_take _ (CV.vals_drop _ hl)) hnew)
      · rw [hcells]
        congr 2
        have : l.take E = l.take off ++ (l.drop off).take (len * sz) := by rw [← hE, List.take_add]
        rw [this]; simp
      · simp only [List.length_append, List.length_take]; omega
      · simp only [List.length_append, List.length_take, List.length_drop]; omega
      · have : (pre ++ l.take off ++ ((l.drop off).take (len * sz) ++ lnew) ++ (l ++ rest).drop (E + n * sz)).length = (pre ++ l ++ rest).length := by
          simp only [List.length_append, List.length_take, List.length_drop]; omega
        rw [this]; exact hth
    · intro k ok y hk hy ey
      rcases upd_get_fam hk with ⟨rfl, rfl⟩ | ⟨hne, hk, _⟩
      · rw [hx] at hy; injection hy with hy; subst hy
        exact ⟨f, p + off, p, rfl, rfl, by simp; omega⟩
      · obtain ⟨g, q, q', h1, h2, h3⟩ := hH.inj k b ok _ y x hk hb hy hx ey hne
        simp only [CObj.fam, Option.some.injEq, Prod.mk.injEq] at h2
        obtain ⟨rfl, rfl⟩ := h2
        exact ⟨f, p + off, q, h1, rfl, by simp; omega⟩
    · intro g q hg
      simp only [CObj.fam, Option.some.injEq, Prod.mk.injEq] at hg
      obtain ⟨rfl, rfl⟩ := hg
      rw [hnext]
      exact Nat.le_of_lt (hH.famlt b _ f p hb rfl)
  · refine ⟨hwr.os, hwr.tape, hwr.output, Nat.le_of_eq hwr.size.symm, fun k _ hk => hwr.other k fun e => hk b _ x ⟨hb, rfl⟩ hx e.symm, Eta.le_ins hn, fun c y h1 h2 => ?_⟩
    by_cases ec : c = H.next
    · subst ec
      rw [Eta.ins_same] at h2; injection h2 with h2; subst h2
      exact ⟨Nat.le_refl _, .inr ⟨b, _, x, ⟨hb, rfl⟩, hx, rfl⟩⟩
    · rw [Eta.ins_ne _ _ ec, h1] at h2; cases h2

/-- There was no room: the elements are moved. -/
theorem growMove_sound (hH : HRel η H w) {b pos newCap sz p' : Nat} {cs : List CV} {e : TypeId} {f p : Nat} {all : List CV} {l rest : List Value} (hb : H.get b = some (.cells cs e (some (f, p))))
    (hl : CV.vals η all = some l) (hsz : 0 < sz) (hlen : (l ++ rest).length = newCap * sz) :
    HRel (η.ins H.next ⟨w.heap.size, 0, (l ++ rest).length⟩) ((H.upd b (.cells (cs.take pos) e (some (f, p))) pos).newF (.cells all e (some (f, p')))) (pushed w (.cells (l ++ rest).toArray e)) ∧
      Keeps η H w (η.ins H.next ⟨w.heap.size, 0, (l ++ rest).length⟩) (pushed w (.cells (l ++ rest).toArray e)) := by
  have hn : η H.next = none := by
    cases e : η H.next with
    | none => rfl
    | some y => exact absurd (hH.dom _ _ e) (Nat.lt_irrefl _)
  have hnext : (H.upd b (.cells (cs.take pos) e (some (f, p))) pos).next = H.next := Heap.upd_next ..
  have hH1 := cut_sound (pos := pos) hH hb
  refine ⟨?_, ?_⟩
  · rw [← hnext]
    refine hH1.newF (fun k ok y hk hy r => r.mono η.le_refl (pushed_lt w _ r.lt)) ?_ ?_ ?_
    · exact ⟨[], l, rest, (0, 0), CV.vals_mono (Eta.le_ins (by rw [hnext]; exact hn)) _ _ hl, by rw [pushed_size]; rfl, rfl, rfl, by simp, thaw_zero _⟩
    · intro k ok y hk hy e
      obtain ⟨z, hz, rz⟩ := hH1.obj k ok hk
      rw [hy] at hz; injection hz with hz; subst hz
      have := rz.lt
      exact absurd e (by simp; omega)
    · intro g q hg
      simp only [CObj.fam, Option.some.injEq, Prod.mk.injEq] at hg
      obtain ⟨rfl, rfl⟩ := hg
      rw [hnext]
      exact Nat.le_of_lt (hH.famlt b _ f p hb rfl)
  · refine ⟨rfl, rfl, rfl, by simp [pushed], fun k hk _ => pushed_lt w _ hk, Eta.le_ins hn, fun b x h1 h2 => ?_⟩
    by_cases e : b = H.next
    · subst e
      rw [Eta.ins_same] at h2; injection h2 with h2; subst h2
      exact ⟨Nat.le_refl _, .inl (Nat.le_refl _)⟩
    · rw [Eta.ins_ne _ _ e, h1] at h2; cases h2

theorem keeps_drawn {η' : Eta} {w' : World} (h : Keeps η H (drawn w) η' w') : Keeps η H w η' w' := ⟨h.os, h.tape, h.output, h.size, h.block, h.le, h.fresh⟩

theorem tailOf_sound {sz len : Nat} {cap : Cap} {tl : Bool} (h : tailOf sz len cap = some tl) : (tl = false ∧ ∃ c, cap = .exact c) ∨ (tl = true ∧ (cap = .tail sz ∨ ∃ o, cap = .tailE sz o ∧ len = 0)) := by
  unfold tailOf at h
  split at h
  · injection h with h; exact .inl ⟨h.symm, _, rfl⟩
  · split at h
    · rename_i e; injection h with h; have := Nat.eq_of_beq_eq_true e; subst this; exact .inr ⟨h.symm, .inl rfl⟩
    · cases h
  · split at h
    · rename_i e
      simp only [Bool.and_eq_true] at e
      injection h with h; have := Nat.eq_of_beq_eq_true e.1; subst this; exact .inr ⟨h.symm, .inr ⟨_, rfl, Nat.eq_of_beq_eq_true e.2⟩⟩
    · cases h

theorem appendC_sound (hH : HRel η H w) {t0 t1 : TypeId} {s x : CV} {s' x' : Value} {c : CV} {H' : Heap} (hs : s.val η = some s') (hx : x.val η = some x') (h : appendC P t0 t1 H s x = some (c, H'))
    (ts : Array TypeId) (ht0 : ts[0]? = some t0) (ht1 : ts[1]? = some t1) (ty : TypeId) (xs : Array Value) (h0 : xs[0]? = some s') (h1 : xs[1]? = some x') :
    Goes η H w ((do pure (Next.value (← Builtin.append_ ts ty xs)) : Sem Next).run P w) c H' := by
  have fin : ∀ {η' v w'}, c.val η' = some v → (Builtin.append_ ts ty xs).run P w = .ok v w' → HRel η' H' w' → Keeps η H w η' w' →
      Goes η H w ((do pure (Next.value (← Builtin.append_ ts ty xs)) : Sem Next).run P w) c H' := by
    intro η' v w' hv hr hrel hk
    exact ⟨η', v, w', hv, .inl (by simp [hr]), hrel, hk⟩
  unfold appendC at h
  split at h
  · cases h
  · rename_i e d hd hu0 hu1
    split at h
    · rename_i i hi
      split at h
      · rename_i sz z hisz hz
        simp only [Option.bind_eq_some_iff] at h
        obtain ⟨⟨n, new⟩, hel, h⟩ := h
        simp only at h
        obtain ⟨lnew, hlnew, hlen, hfirst, hnl⟩ := elemsC_sound (P := P) hH hx hel
        obtain ⟨lnew2, hlnew2, _, hfirst2, _⟩ := elemsC_sound (P := P) (rel_drawn hH) hx hel
        rw [hlnew] at hlnew2; injection hlnew2 with hlnew2; subst hlnew2
        split at h
        · cases h
        · rename_i hok
          simp only [Bool.and_eq_true] at hok
          have hzl := Nat.eq_of_beq_eq_true hok.1
          have hone := singles_val hlnew hok.2
          obtain ⟨zv, hzr, hzv⟩ := zeroC_sound (η := η) (w := w) hz
          have hzero : i.zero = some zv := by
            simp only [zeroValue, typeInfo, Sem.run_bind, run_program, hi, Result.andThen_ok, Sem.run_pure] at hzr
            cases hz0 : i.zero with
            | none => simp [hz0] at hzr
            | some z0 => simp [hz0] at hzr; rw [hzr]
          have hzs : zv.cells.size = sz + 1 := by rw [← Array.length_toList, CV.vals_length hzv, hzl]
          have args : ∀ {base : Option Addr} {sLen sCap : Nat}, s' = .slice base sLen sCap → AppendArgs P w ts xs e i base sLen sCap x' n := by
            intro base sLen sCap es
            exact ⟨⟨t0, ht0, hu0⟩, ⟨t1, d, ht1, hu1, fun k ek => hd k (ek ▸ rfl)⟩, hi, es ▸ h0, h1, hlen⟩
          have hzc : ∀ m, (Builtin.zeroCells zv.cells m).toList.length = m * (sz + 1) := fun m => by rw [zeroCells_length, hzs]
          -- the elements in an array of their own
          have move : ∀ {base : Option Addr} {sLen sCap : Nat} {old : List CV} {lold : List Value}, s' = .slice base sLen sCap → sCap < sLen + n →
              (Nat.ble (2 * (sLen + n) * i.bytes) 140737488355328 && Nat.ble (sLen + n) 140737488355328) = true →
              CV.vals η old = some lold → lold.length = sLen * (sz + 1) → (Builtin.firstCells i.size sLen (.slice base sLen sCap)).run P (drawn w) = .ok lold.toArray (drawn w) →
              ∃ newCap rest, (lold ++ lnew ++ rest : List Value).length = newCap * (sz + 1) ∧ (Builtin.append_ ts ty xs).run P w = .ok (.slice (some ⟨w.heap.size, 0, none⟩) (sLen + n) newCap) (pushed (drawn w) (.cells (lold ++ lnew ++ rest).toArray e)) := by
            intro base sLen sCap old lold es hlt hb hold hol hf
            simp only [Bool.and_eq_true] at hb
            obtain ⟨newCap, hge, hr⟩ := append_grow (ty := ty) (args es) hlt (Nat.le_of_ble_eq_true hb.1) (Nat.le_of_ble_eq_true hb.2) hf (by rw [hisz]; exact hfirst2) hzero
            refine ⟨newCap, (Builtin.zeroCells zv.cells (newCap - (sLen + n))).toList, ?_, ?_⟩
            · simp only [List.length_append, hol, hnl, hzc]
              rw [← Nat.add_mul, ← Nat.add_mul]
              congr 1; omega
            · rw [hr]
              congr 2
              congr 1
              apply Array.toList_inj.1
              simp
          split at h
          · -- append to nil
            simp only [CV.val, Option.some.injEq] at hs
            cases n with
            | zero =>
              simp only [Option.some.injEq, Prod.mk.injEq] at h
              obtain ⟨rfl, rfl⟩ := h
              exact fin (v := .slice none 0 0) rfl (append_in_nil (args hs.symm) (Nat.le_refl _) (by rw [hisz]; exact hfirst)) hH (Keeps.refl ..)
            | succ m =>
              simp only at h
              split at h
              · rename_i hb
                injection h with h
                obtain ⟨newCap, rest, hl, hr⟩ := move (old := []) (lold := []) hs.symm (by omega) (by simpa using hb) rfl (by simp) (by simp [Builtin.firstCells])
                simp only [List.nil_append, Nat.zero_add] at hl hr
                obtain ⟨η', hv, hrel, hk⟩ := growNew_sound (need := m + 1) (rel_drawn hH) hlnew (Nat.succ_pos sz) hl (e := e)
                rw [h] at hv hrel
                exact fin hv hr hrel (keeps_drawn hk)
              · cases h
          · -- append to a slice
            rename_i b off len cap
            split at h
            · rename_i tl cc htl hroom
              -- its place, and its capacity in the world
              obtain ⟨x, hbx, a0, C, rfl, hC, ha0⟩ : ∃ x, η b = some x ∧ ∃ a0 C, s' = .slice (some ⟨x.blk, a0, none⟩) len C ∧ cc ≤ C ∧ ((0 < C ∨ 0 < len) → a0 = x.base + off) := by
                cases cap with
                | exact c0 =>
                  obtain ⟨x, hbx, e⟩ := val_exact hs
                  exact ⟨x, hbx, _, _, e, Nat.le_of_eq ((roomC_sound hH hbx hroom).1 c0 rfl), fun _ => rfl⟩
                | tail s0 =>
                  obtain ⟨x, hbx, e⟩ := val_tail hs
                  have := (roomC_sound hH hbx hroom).2 s0 (.inl rfl)
                  rcases tailOf_sound htl with ⟨_, c, hc⟩ | ⟨_, hc | ⟨o, hc, _⟩⟩
                  · cases hc
                  · injection hc with hc; subst hc; exact ⟨x, hbx, _, _, e, this, fun _ => rfl⟩
                  · cases hc
                | tailE s0 o =>
                  obtain ⟨x, hbx, e⟩ := val_tailE hs
                  have := (roomC_sound hH hbx hroom).2 s0 (.inr ⟨o, rfl⟩)
                  rcases tailOf_sound htl with ⟨_, c, hc⟩ | ⟨_, hc | ⟨o', hc, hl0⟩⟩
                  · cases hc
                  · cases hc
                  · injection hc with hc _; subst hc
                    refine ⟨x, hbx, _, _, e, this, fun hp => ?_⟩
                    have : ¬ (x.m - off) / (sz + 1) = 0 := by omega
                    simp [this]
              split at h
              · -- there is room
                rename_i hle
                have hle' := Nat.le_of_ble_eq_true hle
                cases n with
                | zero =>
                  simp only [Option.some.injEq, Prod.mk.injEq] at h
                  obtain ⟨rfl, rfl⟩ := h
                  have : lnew = [] := by apply List.length_eq_zero_iff.1; rw [hnl]; simp
                  subst this
                  exact fin hs (append_in (args rfl) (by omega) (by rw [hisz]; exact hfirst) (by simp [storeCells])) hH (Keeps.refl ..)
                | succ m =>
                  simp only [Option.map_eq_some_iff, Prod.mk.injEq] at h
                  obtain ⟨H1, hw1, rfl, rfl⟩ := h
                  have ha := ha0 (.inl (by omega))
                  subst ha
                  obtain ⟨w', hw', hrel, hk⟩ := write_sound (P := P) hH hbx hlnew hw1
                  refine fin (v := .slice (some ⟨x.blk, x.base + off, none⟩) (len + (m + 1)) C) ?_ (append_in (args rfl) (by omega) (by rw [hisz]; exact hfirst) ?_) hrel hk
                  · rcases tailOf_sound htl with ⟨rfl, c, rfl⟩ | ⟨rfl, rfl | ⟨o, rfl, _⟩⟩
                    · obtain ⟨y, hy, e⟩ := val_exact hs
                      simp only [Value.slice.injEq] at e
                      simp [CV.val, hbx, e.2.2]
                    · obtain ⟨y, hy, e⟩ := val_tail hs
                      rw [hbx] at hy; injection hy with hy; subst hy
                      simp only [Value.slice.injEq] at e
                      simp [CV.val, hbx, e.2.2]
                    · obtain ⟨y, hy, e⟩ := val_tailE hs
                      rw [hbx] at hy; injection hy with hy; subst hy
                      simp only [Value.slice.injEq] at e
                      simp [CV.val, hbx, e.2.2]
                  · rw [Addr.add_mk, hisz, Nat.add_assoc]
                    simpa using hw'
              · split at h
                · rename_i hbound
                  rcases tailOf_sound htl with ⟨rfl, c0, rfl⟩ | ⟨rfl, htail⟩
                  · -- the capacity is known: there is no room
                    simp only [Option.map_eq_some_iff] at h
                    obtain ⟨⟨k, old⟩, hold, h⟩ := h
                    obtain ⟨lold, hlold, hlk, hf, hol⟩ := elemsC_sound (P := P) (rel_drawn hH) hs hold
                    have hk : k = len := by simp [Builtin.lenOf] at hlk; exact hlk.symm
                    subst hk
                    have hcc := (roomC_sound hH hbx hroom).1 c0 rfl
                    obtain ⟨y, hy, ev⟩ := val_exact hs
                    simp only [Value.slice.injEq] at ev
                    rename_i hle
                    have hlt : C < k + n := by
                      rw [ev.2.2, ← hcc]
                      rcases Nat.lt_or_ge cc (k + n) with h | h
                      · exact h
                      · rw [Nat.ble_eq_true_of_le h] at hle; cases hle
                    obtain ⟨newCap, rest, hl, hr⟩ := move rfl hlt hbound hlold hol (by rw [hisz]; exact hf)
                    obtain ⟨η', hv, hrel, hk⟩ := growNew_sound (need := k + n) (rel_drawn hH) (CV.vals_append hlold hlnew) (Nat.succ_pos sz) hl (e := e)
                    rw [h] at hv hrel
                    exact fin hv hr hrel (keeps_drawn hk)
                  · -- it may be that there is room, or not
                    simp only at h
                    unfold growAt at h
                    split at h
                    · rename_i cs e' f p hb
                      split at h
                      · rename_i hee
                        have hee' := Nat.eq_of_beq_eq_true hee
                        subst hee'
                        split at h
                        · rename_i hok2
                          simp only [Bool.and_eq_true] at hok2
                          have hend := Nat.le_of_ble_eq_true hok2.1
                          have hn1 : 0 < n := by simpa [Nat.blt_eq] using hok2.2
                          simp only [Option.map_eq_some_iff, Prod.mk.injEq] at h
                          obtain ⟨old, hold, rfl, rfl⟩ := h
                          have hCe : C = (x.m - off) / (sz + 1) := by
                            rcases htail with rfl | ⟨o, rfl, _⟩
                            · obtain ⟨y, hy, ev⟩ := val_tail hs
                              rw [hbx] at hy; injection hy with hy; subst hy
                              simp only [Value.slice.injEq] at ev; exact ev.2.2
                            · obtain ⟨y, hy, ev⟩ := val_tailE hs
                              rw [hbx] at hy; injection hy with hy; subst hy
                              simp only [Value.slice.injEq] at ev; exact ev.2.2
                          by_cases hC2 : len + n ≤ C
                          · have ha := ha0 (.inl (by omega))
                            subst ha
                            obtain ⟨w', hw', hrel, hk⟩ := growIn_sound (P := P) hH hb hbx hend hn1 hold hlnew hnl (Nat.succ_pos sz) (hCe ▸ hC2) hone
                            refine fin (v := .slice (some ⟨x.blk, x.base + off, none⟩) (len + n) C) ?_ (append_in (args rfl) hC2 (by rw [hisz]; exact hfirst) ?_) hrel hk
                            · simp [CV.val, Eta.ins_same, hCe]
                            · rw [Addr.add_mk, hisz, Nat.add_assoc]
                              simpa using hw'
                          · have hlt : C < len + n := by omega
                            obtain ⟨lold, hlold, hol, hf⟩ := firstCells_block (P := P) (rel_drawn hH) hb hbx hold len C
                            have hf' : (Builtin.firstCells i.size len (.slice (some ⟨x.blk, a0, none⟩) len C)).run P (drawn w) = .ok lold.toArray (drawn w) := by
                              rw [hisz]
                              by_cases hl0 : len = 0
                              · subst hl0
                                have : lold = [] := by apply List.length_eq_zero_iff.1; rw [hol]; simp
                                subst this
                                simp [Builtin.firstCells, loadCells, loadCellsFrom]
                              · rw [ha0 (.inr (by omega))]; exact hf
                            obtain ⟨newCap, rest, hl, hr⟩ := move rfl hlt hbound hlold hol hf'
                            obtain ⟨hrel, hk⟩ := growMove_sound (p' := p + off) (pos := off + len * (sz + 1)) (rel_drawn hH) hb (CV.vals_append hlold hlnew) (Nat.succ_pos sz) hl
                            refine fin (v := .slice (some ⟨w.heap.size, 0, none⟩) (len + n) newCap) ?_ hr hrel (keeps_drawn hk)
                            simp only [CV.val, Eta.ins_same, Option.map_some, hl, Nat.sub_zero, Nat.zero_add, Nat.mul_div_cancel _ (Nat.succ_pos sz)]
                            rfl
                        · cases h
                      · cases h
                    · cases h
                · cases h
            · cases h
          · cases h
      · cases h
    · cases h
  · cases h
end
end Go.K

namespace Go.K
set_option linter.unusedSimpArgs false
set_option linter.unusedVariables false
section
variable {P : Program} {η : Eta} {H : Heap} {w : World}

theorem takeE_vals {n : Nat} {cs r : List CV} {l : List Value} (hl : CV.vals η cs = some l) (h : takeE n cs = some r) : CV.vals η r = some (l.take n) ∧ n ≤ l.length := by
  obtain ⟨rfl, hle⟩ := takeE_eq h
  exact ⟨CV.vals_take _ hl, by rw [CV.vals_length hl]; exact hle⟩

theorem firstCells_less (hH : HRel η H w) {sz : Nat} {x : CV} {x' : Value} {n m : Nat} {l : List CV} {l' : List Value} (hx : x.val η = some x') (h : elemsC H sz x = some (n, l)) (hl : CV.vals η l = some l') (hm : m ≤ n) :
    (Builtin.firstCells sz m x').run P w = .ok (l'.take (m * sz)).toArray w := by
  unfold elemsC at h
  split at h
  · simp only [Option.some.injEq, Prod.mk.injEq] at h
    obtain ⟨rfl, rfl⟩ := h
    simp only [CV.val, Option.some.injEq] at hx; subst hx
    simp [CV.vals] at hl; subst hl
    simp [Builtin.firstCells]
  · rename_i b off len cap
    obtain ⟨a, C, e⟩ := val_slice hx
    split at h
    · simp only [Option.some.injEq, Prod.mk.injEq] at h
      obtain ⟨rfl, rfl⟩ := h
      have : m = 0 := by omega
      subst this e
      simp [Builtin.firstCells, loadCells, loadCellsFrom]
    · rename_i k
      split at h
      · cases h
      rename_i hcap
      split at h
      · rename_i cs e' f hb
        simp only [Option.map_eq_some_iff, Prod.mk.injEq] at h
        obtain ⟨r, hr, rfl, rfl⟩ := h
        have place : ∃ y, η b = some y ∧ ∃ c2, x' = .slice (some ⟨y.blk, y.base + off, none⟩) (k + 1) c2 := by
          cases cap with
          | exact c => obtain ⟨y, hy, e⟩ := val_exact hx; exact ⟨y, hy, _, e⟩
          | tail s => obtain ⟨y, hy, e⟩ := val_tail hx; exact ⟨y, hy, _, e⟩
          | tailE s o => exact absurd rfl (hcap s o)
        obtain ⟨y, hy, c2, rfl⟩ := place
        have hr2 : takeE (m * sz) (cs.drop off) = some ((cs.drop off).take (m * sz)) := by
          obtain ⟨_, hle⟩ := takeE_eq hr
          have hmul := Nat.mul_le_mul_right sz hm
          have gen : ∀ (n : Nat) (l : List CV), n ≤ l.length → takeE n l = some (l.take n) := by
            intro n
            induction n with
            | zero => intro l _; simp [takeE]
            | succ n ih =>
              intro l hl
              cases l with
              | nil => simp at hl
              | cons a l => simp [takeE, ih l (by simpa using hl)]
          exact gen _ _ (by omega)
        obtain ⟨l2, hl2, _, hrun⟩ := firstCells_block (P := P) (n := m) hH hb hy hr2 (k + 1) c2
        rw [hrun]
        obtain ⟨rfl, hle⟩ := takeE_eq hr
        have e1 := CV.vals_take (m * sz) hl
        rw [List.take_take, Nat.min_eq_left (Nat.mul_le_mul_right sz hm)] at e1
        rw [e1] at hl2
        injection hl2 with hl2; rw [hl2]
      · cases h
  · rename_i s
    split at h
    · rename_i hsz
      have := Nat.eq_of_beq_eq_true hsz
      subst this
      simp only [Option.some.injEq, Prod.mk.injEq] at h
      obtain ⟨rfl, rfl⟩ := h
      rw [val_str hx]
      rw [byteCells_vals] at hl; injection hl with hl; subst hl
      simp only [Builtin.firstCells, Sem.run_pure]
      congr 1
      apply Array.toList_inj.1
      rw [Array.toList_map, ByteArray.data_extract, Array.toList_extract, List.extract_eq_take_drop, List.map_take]
      simp
    · cases h
  · cases h

theorem copyC_sound (hH : HRel η H w) {t : TypeId} {d s : CV} {d' s' : Value} {c : CV} {H' : Heap} (hd : d.val η = some d') (hs : s.val η = some s') (h : copyC P t H d s = some (c, H'))
    (ts : Array TypeId) (ht : ts[0]? = some t) (ty : TypeId) (xs : Array Value) (h0 : xs[0]? = some d') (h1 : xs[1]? = some s') :
    Goes η H w ((do pure (Next.value (← Builtin.copy_ ts ty xs)) : Sem Next).run P w) c H' := by
  unfold copyC at h
  split at h
  · rename_i e hu
    split at h
    · rename_i sz hsz
      simp only [Option.bind_eq_some_iff] at h
      obtain ⟨⟨n, cells⟩, hel, h⟩ := h
      simp only at h
      obtain ⟨lc, hlc, hlen, hfirst, hll⟩ := elemsC_sound (P := P) hH hs hel
      split at h
      · simp only [Option.some.injEq, Prod.mk.injEq] at h
        obtain ⟨rfl, rfl⟩ := h
        simp only [CV.val, Option.some.injEq] at hd; subst hd
        refine ⟨η, goInt 0, w, rfl, .inl ?_, hH, Keeps.refl ..⟩
        have hf := firstCells_less (P := P) hH hs hel hlc (Nat.zero_le n)
        simp only [Builtin.copy_, ht, h0, h1, Sem.run_bind, und_run hu, Result.andThen_ok, hlen, szC_sound hsz, Sem.run_pure]
        rw [show n.min 0 = 0 from Nat.min_zero n, hf]
        rfl
      · rename_i b off len cap
        split at h
        · cases h
        · rename_i hcap
          simp only [Option.bind_eq_some_iff, Option.map_eq_some_iff, Prod.mk.injEq] at h
          obtain ⟨l, hl, H1, hw1, rfl, rfl⟩ := h
          have place : ∃ y, η b = some y ∧ ∃ c2, d' = .slice (some ⟨y.blk, y.base + off, none⟩) len c2 := by
            cases cap with
            | exact c => obtain ⟨y, hy, e⟩ := val_exact hd; exact ⟨y, hy, _, e⟩
            | tail s => obtain ⟨y, hy, e⟩ := val_tail hd; exact ⟨y, hy, _, e⟩
            | tailE s o => exact absurd rfl (hcap s o)
          obtain ⟨y, hy, c2, rfl⟩ := place
          obtain ⟨hl', _⟩ := takeE_vals hlc hl
          obtain ⟨w', hw', hrel, hk⟩ := write_sound (P := P) hH hy hl' hw1
          refine ⟨η, goInt (n.min len), w', rfl, .inl ?_, hrel, hk⟩
          have hf := firstCells_less (P := P) hH hs hel hlc (Nat.min_le_left n len)
          simp only [Builtin.copy_, ht, h0, h1, Sem.run_bind, und_run hu, Result.andThen_ok, hlen, szC_sound hsz, Sem.run_pure]
          have hmin : n.min len = min n len := rfl
          rw [hmin] at hw' ⊢
          rw [hf]
          simp only [Result.andThen_ok, Sem.run_bind, hw', Sem.run_pure]
      · cases h
    · cases h
  · cases h

theorem rep_zeroCells {z : List CV} {zv : Array Value} (h : CV.vals η z = some zv.toList) (n : Nat) : CV.vals η (rep n z) = some (Builtin.zeroCells zv n).toList := by
  obtain ⟨m, hm, hl, hi⟩ := rep_vals h n
  rw [hm]
  congr 1
  apply List.ext_getElem?
  intro i
  by_cases hlt : i < n * zv.size
  · have hz : 0 < zv.size := by
      rcases Nat.eq_zero_or_pos zv.size with h0 | h0
      · rw [h0] at hlt; simp at hlt
      · exact h0
    rw [hi i (by simpa using hlt)]
    simp only [Builtin.zeroCells, Array.toList_map, List.getElem?_map, Array.getElem?_toList, Array.getElem?_range, hlt, if_true, Option.map_some]
    rw [getElem!_pos zv (i % zv.size) (Nat.mod_lt _ hz), Array.length_toList, Array.getElem?_eq_getElem (Nat.mod_lt _ hz)]
  · rw [List.getElem?_eq_none (by rw [hl]; simpa using hlt), List.getElem?_eq_none (by rw [zeroCells_length]; omega)]

theorem clearC_sound (hH : HRel η H w) {t : TypeId} {x : CV} {x' : Value} {c : CV} {H' : Heap} (hx : x.val η = some x') (h : clearC P t H x = some (c, H'))
    (ts : Array TypeId) (ht : ts[0]? = some t) (ty : TypeId) (xs : Array Value) (h0 : xs[0]? = some x') :
    Goes η H w ((do pure (Next.value (← Builtin.clear_ ts ty xs)) : Sem Next).run P w) c H' := by
  unfold clearC at h
  split at h
  · rename_i e hu
    simp only [Option.some.injEq, Prod.mk.injEq] at h
    obtain ⟨rfl, rfl⟩ := h
    simp only [CV.val, Option.some.injEq] at hx; subst hx
    refine ⟨η, .tuple #[], w, rfl, .inl ?_, hH, Keeps.refl ..⟩
    simp only [Builtin.clear_, ht, h0, Sem.run_bind, und_run hu, Result.andThen_ok, Sem.run_pure]
  · rename_i e b off len cap hu
    split at h
    · simp only [Option.some.injEq, Prod.mk.injEq] at h
      obtain ⟨rfl, rfl⟩ := h
      obtain ⟨a, C, rfl⟩ := val_slice hx
      refine ⟨η, .tuple #[], w, rfl, .inl ?_, hH, Keeps.refl ..⟩
      simp only [Builtin.clear_, ht, h0, Sem.run_bind, und_run hu, Result.andThen_ok, Sem.run_pure]
    · rename_i m
      split at h
      · cases h
      · rename_i hcap
        simp only [Option.bind_eq_some_iff, Option.map_eq_some_iff, Prod.mk.injEq] at h
        obtain ⟨z, hz, H1, hw1, rfl, rfl⟩ := h
        have place : ∃ y, η b = some y ∧ ∃ c2, x' = .slice (some ⟨y.blk, y.base + off, none⟩) (m + 1) c2 := by
          cases cap with
          | exact c => obtain ⟨y, hy, e⟩ := val_exact hx; exact ⟨y, hy, _, e⟩
          | tail s => obtain ⟨y, hy, e⟩ := val_tail hx; exact ⟨y, hy, _, e⟩
          | tailE s o => exact absurd rfl (hcap s o)
        obtain ⟨y, hy, c2, rfl⟩ := place
        obtain ⟨zv, hzr, hzv⟩ := zeroC_sound (η := η) (w := w) hz
        obtain ⟨w', hw', hrel, hk⟩ := write_sound (P := P) hH hy (rep_zeroCells hzv (m + 1)) hw1
        refine ⟨η, .tuple #[], w', rfl, .inl ?_, hrel, hk⟩
        simp only [Builtin.clear_, ht, h0, Sem.run_bind, und_run hu, Result.andThen_ok, Sem.run_pure, hzr, hw']
  · cases h
end
end Go.K
