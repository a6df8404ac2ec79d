/- The loud operations that call nothing: one function, one theorem. The evaluator: regions in the order of the text, code, calls. Steps and undrawn regions are sound. -/
import Derived.Test.YtmnhkbhdfkebmaaGreatK5
import Derived.Tactics

set_option linter.unusedSimpArgs false
set_option linter.unusedVariables false

namespace Go.K
set_option linter.unusedSimpArgs false
set_option linter.unusedVariables false

inductive Kind where
  | quiet | alloc | loud
  deriving DecidableEq

def kindOf (P : Program) : Op → Kind
  | .alloc _ | .box _ _ | .buildSlice _ _ _ | .makeMap _ _ | .makeSlice _ _ _ => .alloc
  | .move _ | .assign _ | .pick _ _ _ | .build _ _ | .load _ _ | .nilCheck _ | .binOp _ _ _ _ _ | .unOp _ _ _ | .makeInterface _ _ | .makeFunc _ _ _ | .slice _ _ _ _ _ | .fieldAddr _ _ _
  | .field _ _ _ | .indexAddr _ _ _ | .index _ _ _ | .lookup _ _ _ _ | .extract _ _ | .typeAssert _ _ _ _ => .quiet
  | .convert s d _ => match P.underlying s, P.underlying d with
    | some .string, some (.slice _) | some (.slice _), some .string => .loud
    | _, _ => .quiet
  | .call c => match c.callee with
    | .builtin .len | .builtin .max | .builtin .min => .quiet
    | _ => .loud
  | _ => .loud

def loudC (P : Program) (op : Op) (ρ : Operand → Option CV) (H : Heap) : Option (CV × Heap) :=
  match op with
  | .store t a v => (ρ a).bind fun a => (ρ v).bind fun v => storeC P t H a v
  | .mapUpdate t m k v | .insert t m k v => (ρ m).bind fun m => (ρ k).bind fun k => (ρ v).bind fun v => updateC P t H m k v
  | .range t x => (ρ x).bind fun x => rangeC P t H x
  | .next x s => (ρ x).bind fun x => nextC H x s
  | .entry x => (ρ x).bind fun x => (entryC H x).map fun v => (v, H)
  | .convert s d x => (ρ x).bind fun x => toBytesC P s d H x
  | .call c => match c.callee with
    | .builtin .append => match c.args[0]?, c.args[1]?, c.argTypes[0]?, c.argTypes[1]? with
      | some s, some x, some t0, some t1 => (ρ s).bind fun s => (ρ x).bind fun x => appendC P t0 t1 H s x
      | _, _, _, _ => none
    | .builtin .copy => match c.args[0]?, c.args[1]?, c.argTypes[0]? with
      | some d, some s, some t => (ρ d).bind fun d => (ρ s).bind fun s => copyC P t H d s
      | _, _, _ => none
    | .builtin .clear => match c.args[0]?, c.argTypes[0]? with
      | some x, some t => (ρ x).bind fun x => clearC P t H x
      | _, _ => none
    | .builtin .delete => match c.args[0]?, c.args[1]?, c.argTypes[0]? with
      | some m, some k, some t => (ρ m).bind fun m => (ρ k).bind fun k => deleteC P t H m k
      | _, _, _ => none
    | _ => none
  | _ => none

/-- Every block behind a step was there ahead of it, or is new. -/
def Grows (H H' : Heap) : Prop := H.next ≤ H'.next ∧ ∀ b o, H'.get b = some o → (∃ o0, H.get b = some o0 ∧ o0.isLook = o.isLook) ∨ H.next ≤ b

theorem Grows.refl (H : Heap) : Grows H H := ⟨Nat.le_refl _, fun b o h => .inl ⟨o, h, rfl⟩⟩
theorem Grows.trans {A B C : Heap} (h : Grows A B) (k : Grows B C) : Grows A C := by
  refine ⟨Nat.le_trans h.1 k.1, fun b o hb => ?_⟩
  rcases k.2 b o hb with ⟨o1, h1, h1'⟩ | h1
  · rcases h.2 b o1 h1 with ⟨o2, h2, h2'⟩ | h2
    · exact .inl ⟨o2, h2, h2'.trans h1'⟩
    · exact .inr h2
  · exact .inr (Nat.le_trans h.1 h1)
theorem Grows.put {H : Heap} {b : Nat} {o o' : CObj} (h : H.get b = some o) (hl : o.isLook = o'.isLook := by rfl) : Grows H (H.put b o') := by
  refine ⟨Nat.le_refl _, fun k ok hk => ?_⟩
  rw [Heap.get_put] at hk
  split at hk
  · rename_i e; subst e; injection hk with hk; subst hk; exact .inl ⟨o, h, hl⟩
  · exact .inl ⟨ok, hk, rfl⟩
theorem Grows.upd {H : Heap} {b pos : Nat} {o o' : CObj} (h : H.get b = some o) (hl : o.isLook = o'.isLook := by rfl) : Grows H (H.upd b o' pos) := by
  refine ⟨Nat.le_of_eq (Heap.upd_next ..).symm, fun k ok hk => ?_⟩
  unfold Heap.upd at hk
  split at hk
  · exact (Grows.put h hl).2 k ok hk
  · rw [Heap.get_put] at hk
    split at hk
    · rename_i e; subst e; injection hk with hk; subst hk; exact .inl ⟨o, h, hl⟩
    · rw [Heap.trim_get] at hk
      split at hk
      · cases hk
      · exact .inl ⟨ok, hk, rfl⟩
theorem Grows.newF {H : Heap} {o : CObj} : Grows H (H.newF o) := by
  refine ⟨Nat.le_succ _, fun k ok hk => ?_⟩
  rw [Heap.newF_get] at hk
  split at hk
  · rename_i e; exact .inr (Nat.le_of_eq e.symm)
  · exact .inl ⟨ok, hk, rfl⟩
theorem Grows.fill {H : Heap} {o : CObj} : Grows H ((H.skip 1).put H.next o) := by
  refine ⟨Nat.le_succ _, fun k ok hk => ?_⟩
  rw [Heap.get_put] at hk
  split at hk
  · rename_i e; exact .inr (Nat.le_of_eq e.symm)
  · exact .inl ⟨ok, hk, rfl⟩

section
variable {P : Program} {η : Eta} {H : Heap} {w : World}

theorem writeC_grows {b off : Nat} {vs : List CV} {H' : Heap} (h : writeC H b off vs = some H') : Grows H H' := by
  unfold writeC at h
  split at h
  · rename_i hb
    split at h
    · injection h with h; subst h; exact Grows.upd hb
    · cases h
  · cases h

theorem growAt_grows {b off len n sz : Nat} {e : TypeId} {new : List CV} {c : CV} {H' : Heap} (h : growAt H b off len n sz e new = some (c, H')) : Grows H H' := by
  cases hb : H.get b with
  | none => simp [growAt, hb] at h
  | some o =>
    cases o with
    | cells cs e' fam =>
      cases fam with
      | none => simp [growAt, hb] at h
      | some fp =>
        obtain ⟨f, p⟩ := fp
        simp only [growAt, hb] at h
        cases h1 : Nat.beq e' e with
        | false => simp only [h1] at h; cases h
        | true =>
          simp only [h1] at h
          cases h2 : (Nat.ble (off + len * sz) cs.length && Nat.blt 0 n) with
          | false => simp only [h2] at h; cases h
          | true =>
            simp only [h2, Option.map_eq_some_iff, Prod.mk.injEq] at h
            obtain ⟨_, _, _, rfl⟩ := h
            exact (Grows.upd hb).trans Grows.newF
    | map es ck => simp [growAt, hb] at h
    | mapIter m s se st => simp [growAt, hb] at h
    | strIter s ps => simp [growAt, hb] at h
    | look s => simp [growAt, hb] at h

theorem appendC_grows {t0 t1 : TypeId} {s x : CV} {c : CV} {H' : Heap} (h : appendC P t0 t1 H s x = some (c, H')) : Grows H H' := by
  unfold appendC at h
  split at h
  · cases h
  · split at h
    · split at h
      · simp only [Option.bind_eq_some_iff] at h
        obtain ⟨⟨n, new⟩, _, h⟩ := h
        simp only at h
        split at h
        · cases h
        · split at h
          · split at h
            · simp only [Option.some.injEq, Prod.mk.injEq] at h; rw [← h.2]; exact Grows.refl H
            · split at h
              · simp only [growNew, Option.some.injEq, Prod.mk.injEq] at h; rw [← h.2]; exact Grows.newF
              · cases h
          · split at h
            · split at h
              · split at h
                · simp only [Option.some.injEq, Prod.mk.injEq] at h; rw [← h.2]; exact Grows.refl H
                · simp only [Option.map_eq_some_iff, Prod.mk.injEq] at h
                  obtain ⟨H1, hw, _, rfl⟩ := h
                  exact writeC_grows hw
              · split at h
                · split at h
                  · exact growAt_grows h
                  · simp only [growNew, Option.map_eq_some_iff, Prod.mk.injEq] at h
                    obtain ⟨_, _, _, rfl⟩ := h
                    exact Grows.newF
                · cases h
            · cases h
          · cases h
      · cases h
    · cases h
  · cases h

theorem bytes_loop {f : Value → ByteArray → Sem (ForInStep ByteArray)} (hf : ∀ n s, f (.int .u8 n) s = pure (ForInStep.yield (s.push (UInt8.ofNat n.toNat)))) :
    ∀ {cs : List CV} {l : List Value} {bs : List UInt8} (acc : ByteArray), CV.vals η cs = some l → bytesC cs = some bs →
    (forIn l acc f).run P w = .ok ⟨acc.data ++ bs.toArray⟩ w
  | [], l, bs, acc, hl, hb => by
    simp [CV.vals] at hl; subst hl
    simp [bytesC] at hb; subst hb
    simp
  | c :: cs, l, bs, acc, hl, hb => by
    simp only [CV.vals, Option.bind_eq_some_iff, Option.map_eq_some_iff] at hl
    obtain ⟨v, hv, l', hl', rfl⟩ := hl
    unfold bytesC at hb
    split at hb
    · rename_i e; cases e
    · rename_i n cs' e
      injection e with e1 e2
      subst e1 e2
      simp only [Option.map_eq_some_iff] at hb
      obtain ⟨bs', hbs, rfl⟩ := hb
      rw [val_int hv]
      simp only [List.forIn_cons, Sem.run_bind, hf, Sem.run_pure, Result.andThen_ok]
      rw [bytes_loop hf (acc.push (UInt8.ofNat (Int.ofNat n).toNat)) hl' hbs]
      congr 2
      apply Array.toList_inj.1
      simp
    · cases hb

theorem toBytesC_sound (hH : HRel η H w) {s d : TypeId} {x : CV} {x' : Value} {c : CV} {H' : Heap} (hx : x.val η = some x') (h : toBytesC P s d H x = some (c, H')) :
    Goes η H w ((do pure (Next.value (← convert s d x')) : Sem Next).run P w) c H' := by
  unfold toBytesC at h
  split at h
  · rename_i e str hs hd
    split at h
    · rename_i he
      split at h
      · rename_i hle
        have hle' := Nat.le_of_ble_eq_true hle
        simp only [Option.some.injEq, Prod.mk.injEq] at h
        obtain ⟨rfl, rfl⟩ := h
        rw [val_str hx]
        have hn : η H.next = none := by
          cases e : η H.next with
          | none => rfl
          | some y => exact absurd (hH.dom _ _ e) (Nat.lt_irrefl _)
        generalize hcap : (Question.appendCap str.size 0 e).cut (w.tape w.drawn (.appendCap str.size 0 e)) = cap
        have hge : str.size ≤ cap := by rw [← hcap]; exact Nat.le_add_right _ _
        have hchoose : (choose (.appendCap str.size 0 e)).run P w = .ok cap (drawn w) := by simp [run_choose, Question.forced, drawn, hcap]
        let l : List Value := str.data.toList.map fun b => Value.int .u8 b.toNat
        let rest : List Value := List.replicate (cap - str.size) (Value.int .u8 0)
        have hll : (l ++ rest).length = cap := by
          have h1 : l.length = str.size := by simp only [l, List.length_map, Array.length_toList]; rfl
          simp only [List.length_append, h1, rest, List.length_replicate]; omega
        let w1 := pushed (drawn w) (.cells (l ++ rest).toArray e)
        let w2 : World := { w1 with heap := w1.heap.modify w.heap.size fun
            | .cells c elem (lo, hi) => .cells c elem (if lo == hi then (cap, cap + 1) else (min lo cap, max hi (cap + 1)))
            | o => o }
        have hw2 : w2.heap[w.heap.size]? = some (.cells (l ++ rest).toArray e (cap, cap + 1)) := by
          show (w1.heap.modify w.heap.size _)[w.heap.size]? = _
          rw [Array.getElem?_modify, if_pos rfl]
          have : w1.heap[w.heap.size]? = some (.cells (l ++ rest).toArray e) := pushed_size (drawn w) _
          rw [this]; rfl
        have hold : ∀ k, k < w.heap.size → w2.heap[k]? = w.heap[k]? := by
          intro k hk
          show (w1.heap.modify w.heap.size _)[k]? = _
          rw [Array.getElem?_modify, if_neg (by omega)]
          exact pushed_lt (drawn w) _ hk
        have hrun : (Conv.stringToBytes e str).run P w = .ok (.slice (some ⟨w.heap.size, 0, none⟩) str.size cap) w2 := by
          have harr : (str.data.map fun b => Value.int .u8 b.toNat) ++ Array.replicate (cap - str.size) (.int .u8 0) = (l ++ rest).toArray := by
            apply Array.toList_inj.1; simp [l, rest]
          have hshape : (pushed (drawn w) (.cells (l ++ rest).toArray e)).shape? w.heap.size = some (e, cap) := by
            have : (pushed (drawn w) (.cells (l ++ rest).toArray e)).heap[w.heap.size]? = _ := pushed_size (drawn w) _
            simp only [World.shape?, this, List.size_toArray, hll]
          simp only [Conv.stringToBytes, Sem.run_bind, hchoose, Result.andThen_ok, newRow, run_newObj, Sem.run_pure, harr, markStringish, run_shape]
          have e1 : ({ drawn w with heap := (drawn w).heap.push (.cells (l ++ rest).toArray e) } : World) = pushed (drawn w) (.cells (l ++ rest).toArray e) := rfl
          have e2 : (drawn w).heap.size = w.heap.size := rfl
          rw [e1, e2, hshape]
          simp only [Result.andThen_ok, Sem.run_bind, run_freeze, Sem.run_pure]
          rfl
        refine ⟨η.ins H.next ⟨w.heap.size, 0, cap⟩, .slice (some ⟨w.heap.size, 0, none⟩) str.size cap, w2, ?_, .inl ?_, ?_, ?_⟩
        · simp [CV.val, Eta.ins_same]
        · simp only [convert, Sem.run_bind, und_run hs, und_run hd, und_run he, Result.andThen_ok, hrun, Sem.run_pure]
        · refine hH.newF (fun k ok y hk hy r => r.mono η.le_refl (hold _ r.lt)) ?_ ?_ (fun f p e => by simp [CObj.fam] at e; omega)
          · refine ⟨[], l, rest, (cap, cap + 1), byteCells_vals str, hw2, rfl, hll, by simp, ?_⟩
            intro i hi
            simp only [List.nil_append, hll] at hi
            omega
          · intro k ok y hk hy e
            obtain ⟨z, hz, rz⟩ := hH.obj k ok hk
            rw [hy] at hz; injection hz with hz; subst hz
            have := rz.lt
            exact absurd e (by simp; omega)
        · refine ⟨rfl, rfl, rfl, ?_, fun k hk _ => hold k hk, Eta.le_ins hn, fun b x h1 h2 => ?_⟩
          · show w.heap.size ≤ (w1.heap.modify w.heap.size _).size
            simp [w1, pushed, drawn]
          · by_cases e : b = H.next
            · subst e
              rw [Eta.ins_same] at h2; injection h2 with h2; subst h2
              exact ⟨Nat.le_refl _, .inl (Nat.le_refl _)⟩
            · rw [Eta.ins_ne _ _ e, h1] at h2; cases h2
      · cases h
    · cases h
  · rename_i e hs hd
    split at h
    · rename_i he
      split at h
      · simp only [Option.some.injEq, Prod.mk.injEq] at h
        obtain ⟨rfl, rfl⟩ := h
        simp only [CV.val, Option.some.injEq] at hx; subst hx
        refine ⟨η, .string .empty, w, rfl, .inl ?_, hH, Keeps.refl ..⟩
        simp only [convert, Sem.run_bind, und_run hs, und_run hd, und_run he, Result.andThen_ok, Conv.bytesToString, Sem.run_pure]
      · rename_i b off len cap
        obtain ⟨a, C, ev⟩ := val_slice hx
        split at h
        · simp only [Option.some.injEq, Prod.mk.injEq] at h
          obtain ⟨rfl, rfl⟩ := h
          subst ev
          refine ⟨η, .string .empty, w, rfl, .inl ?_, hH, Keeps.refl ..⟩
          simp only [convert, Sem.run_bind, und_run hs, und_run hd, und_run he, Result.andThen_ok, Conv.bytesToString, loadCells, loadCellsFrom, Sem.run_pure]
          rfl
        · rename_i m
          split at h
          · cases h
          · rename_i hcap
            split at h
            · rename_i cs e' f hb
              simp only [Option.bind_eq_some_iff, Option.map_eq_some_iff, Prod.mk.injEq] at h
              obtain ⟨l, hl, bs, hbs, rfl, rfl⟩ := h
              have place : ∃ y, η b = some y ∧ ∃ c2, x' = .slice (some ⟨y.blk, y.base + off, none⟩) (m + 1) c2 := by
                cases cap with
                | exact c => obtain ⟨y, hy, e⟩ := val_exact hx; exact ⟨y, hy, _, e⟩
                | tail s => obtain ⟨y, hy, e⟩ := val_tail hx; exact ⟨y, hy, _, e⟩
                | tailE s o => exact absurd rfl (hcap s o)
              obtain ⟨y, hy, c2, rfl⟩ := place
              obtain ⟨l', hl', hl2, hrun⟩ := firstCells_block (P := P) (sz := 1) (n := m + 1) hH hb hy (by simpa using hl) (m + 1) c2
              simp only [Builtin.firstCells, Nat.mul_one] at hrun
              refine ⟨η, .string ⟨bs.toArray⟩, w, rfl, .inl ?_, hH, Keeps.refl ..⟩
              simp only [convert, Sem.run_bind, und_run hs, und_run hd, und_run he, Result.andThen_ok, Conv.bytesToString, hrun]
              rw [← Array.forIn_toList]
              simp only [List.toList_toArray]
              rw [bytes_loop (fun n s => rfl) ByteArray.empty hl' hbs]
              have e0 : ByteArray.empty.data ++ bs.toArray = bs.toArray := by
                show (#[] : Array UInt8) ++ bs.toArray = bs.toArray
                simp
              simp only [Result.andThen_ok, Sem.run_pure, e0]
            · cases h
      · cases h
    · cases h
  · cases h


theorem loudC_grows {op : Op} {ρ : Operand → Option CV} {c : CV} {H' : Heap} (h : loudC P op ρ H = some (c, H')) : Grows H H' := by
  unfold loudC at h
  split at h
  · simp only [Option.bind_eq_some_iff] at h
    obtain ⟨a, _, v, _, h⟩ := h
    unfold storeC at h
    split at h
    · split at h
      · split at h
        · simp only [Option.map_eq_some_iff, Prod.mk.injEq] at h
          obtain ⟨H1, hw, _, rfl⟩ := h
          exact writeC_grows hw
        · cases h
      · cases h
    · cases h
  all_goals try (first
    | (simp only [Option.bind_eq_some_iff] at h
       obtain ⟨m, _, k, _, v, _, h⟩ := h
       unfold updateC at h
       split at h
       · split at h
         · split at h
           · rename_i hb
             split at h
             · split at h
               · simp only [Option.map_eq_some_iff, Prod.mk.injEq] at h
                 obtain ⟨_, _, _, rfl⟩ := h
                 exact Grows.put hb
               · simp only [Option.some.injEq, Prod.mk.injEq] at h; rw [← h.2]; exact Grows.put hb
               · cases h
             · cases h
           · cases h
         · cases h
       · cases h))
  · simp only [Option.bind_eq_some_iff] at h
    obtain ⟨x, _, h⟩ := h
    unfold rangeC at h
    split at h
    · simp only [Option.some.injEq, Prod.mk.injEq] at h; rw [← h.2]; exact Grows.newF
    · simp only [Option.some.injEq, Prod.mk.injEq] at h; rw [← h.2]; exact Grows.newF
    · split at h
      · simp only [Option.some.injEq, Prod.mk.injEq] at h; rw [← h.2]; exact Grows.newF
      · cases h
    · cases h
  · simp only [Option.bind_eq_some_iff] at h
    obtain ⟨x, _, h⟩ := h
    unfold nextC at h
    split at h
    · split at h
      · rename_i hb
        split at h
        · simp only [Option.some.injEq, Prod.mk.injEq] at h; rw [← h.2]; exact Grows.put hb
        · simp only [Option.some.injEq, Prod.mk.injEq] at h; rw [← h.2]; exact Grows.refl H
      · simp only [Option.some.injEq, Prod.mk.injEq] at h; rw [← h.2]; exact Grows.refl H
      · rename_i hb
        split at h
        · split at h
          · cases h
          · split at h
            · simp only [Option.some.injEq, Prod.mk.injEq] at h; rw [← h.2]; exact Grows.refl H
            · split at h
              · simp only [Option.some.injEq, Prod.mk.injEq] at h; rw [← h.2]; exact Grows.put hb
              · cases h
            · cases h
        · cases h
      · cases h
    · cases h
  · simp only [Option.bind_eq_some_iff, Option.map_eq_some_iff, Prod.mk.injEq] at h
    obtain ⟨_, _, _, _, _, rfl⟩ := h
    exact Grows.refl H
  · simp only [Option.bind_eq_some_iff] at h
    obtain ⟨x, _, h⟩ := h
    unfold toBytesC at h
    split at h
    · split at h
      · split at h
        · simp only [Option.some.injEq, Prod.mk.injEq] at h; rw [← h.2]; exact Grows.newF
        · cases h
      · cases h
    · split at h
      · split at h
        · simp only [Option.some.injEq, Prod.mk.injEq] at h; rw [← h.2]; exact Grows.refl H
        · split at h
          · simp only [Option.some.injEq, Prod.mk.injEq] at h; rw [← h.2]; exact Grows.refl H
          · split at h
            · cases h
            · split at h
              · simp only [Option.bind_eq_some_iff, Option.map_eq_some_iff, Prod.mk.injEq] at h
                obtain ⟨_, _, _, _, _, rfl⟩ := h
                exact Grows.refl H
              · cases h
        · cases h
      · cases h
    · cases h
  · split at h
    · split at h
      · simp only [Option.bind_eq_some_iff] at h
        obtain ⟨_, _, _, _, h⟩ := h
        exact appendC_grows h
      · cases h
    · split at h
      · simp only [Option.bind_eq_some_iff] at h
        obtain ⟨_, _, _, _, h⟩ := h
        unfold copyC at h
        split at h
        · split at h
          · simp only [Option.bind_eq_some_iff] at h
            obtain ⟨⟨_, _⟩, _, h⟩ := h
            simp only at h
            split at h
            · simp only [Option.some.injEq, Prod.mk.injEq] at h; rw [← h.2]; exact Grows.refl H
            · split at h
              · cases h
              · simp only [Option.bind_eq_some_iff, Option.map_eq_some_iff, Prod.mk.injEq] at h
                obtain ⟨_, _, H1, hw, _, rfl⟩ := h
                exact writeC_grows hw
            · cases h
          · cases h
        · cases h
      · cases h
    · split at h
      · simp only [Option.bind_eq_some_iff] at h
        obtain ⟨_, _, h⟩ := h
        unfold clearC at h
        split at h
        · simp only [Option.some.injEq, Prod.mk.injEq] at h; rw [← h.2]; exact Grows.refl H
        · split at h
          · simp only [Option.some.injEq, Prod.mk.injEq] at h; rw [← h.2]; exact Grows.refl H
          · split at h
            · cases h
            · simp only [Option.bind_eq_some_iff, Option.map_eq_some_iff, Prod.mk.injEq] at h
              obtain ⟨_, _, H1, hw, _, rfl⟩ := h
              exact writeC_grows hw
        · cases h
      · cases h
    · split at h
      · simp only [Option.bind_eq_some_iff] at h
        obtain ⟨_, _, _, _, h⟩ := h
        unfold deleteC at h
        split at h
        · split at h
          · split at h
            · rename_i hb
              split at h
              · split at h
                · simp only [Option.some.injEq, Prod.mk.injEq] at h; rw [← h.2]; exact Grows.put hb
                · simp only [Option.some.injEq, Prod.mk.injEq] at h; rw [← h.2]; exact Grows.refl H
                · cases h
              · cases h
            · cases h
          · cases h
        · cases h
      · cases h
    · cases h
  · cases h

theorem loud_sound (hH : HRel η H w) {ρ : Operand → Option CV} {ρ' : Operand → Value} (hρ : ∀ x c, ρ x = some c → c.val η = some (ρ' x)) (o : Oper) {c : CV} {H' : Heap} (h : loudC P o.op ρ H = some (c, H')) :
    Goes η H w ((execOp ρ' o).run P w) c H' := by
  obtain ⟨dst, op, type, pos, after, guard⟩ := o
  unfold loudC at h
  split at h
  case h_9 => cases h
  all_goals (rename_i eop; simp only at eop; subst eop; simp only [execOp])
  · simp only [Option.bind_eq_some_iff] at h
    obtain ⟨a, ha, v, hv, h⟩ := h
    exact storeC_sound hH (hρ _ _ ha) (hρ _ _ hv) h
  · simp only [Option.bind_eq_some_iff] at h
    obtain ⟨m, hm, k, hk, v, hv, h⟩ := h
    exact updateC_sound hH (hρ _ _ hm) (hρ _ _ hk) (hρ _ _ hv) h
  · simp only [Option.bind_eq_some_iff] at h
    obtain ⟨m, hm, k, hk, v, hv, h⟩ := h
    exact updateC_sound hH (hρ _ _ hm) (hρ _ _ hk) (hρ _ _ hv) h
  · simp only [Option.bind_eq_some_iff] at h
    obtain ⟨x, hx, h⟩ := h
    exact rangeC_sound hH (hρ _ _ hx) h
  · simp only [Option.bind_eq_some_iff] at h
    obtain ⟨x, hx, h⟩ := h
    exact nextC_sound hH (hρ _ _ hx) h
  · simp only [Option.bind_eq_some_iff, Option.map_eq_some_iff, Prod.mk.injEq] at h
    obtain ⟨x, hx, v, hv, rfl, rfl⟩ := h
    obtain ⟨v', hv', hr⟩ := entryC_sound (P := P) hH (hρ _ _ hx) hv
    exact ⟨η, v', w, hv', .inl (by simp [hr]), hH, Keeps.refl ..⟩
  · simp only [Option.bind_eq_some_iff] at h
    obtain ⟨x, hx, h⟩ := h
    exact toBytesC_sound hH (hρ _ _ hx) h
  · rename_i cl
    obtain ⟨callee, args, argTypes⟩ := cl
    simp only at h
    split at h
    · split at h
      · rename_i s x t0 t1 hs hx ht0 ht1
        simp only [Option.bind_eq_some_iff] at h
        obtain ⟨s', hs', x', hx', h⟩ := h
        have := appendC_sound hH (hρ _ _ hs') (hρ _ _ hx') h argTypes ht0 ht1 type (args.map ρ') (by simp [hs]) (by simp [hx])
        simpa [resolve, invoke, builtin] using this
      · cases h
    · split at h
      · rename_i s x t0 hs hx ht0
        simp only [Option.bind_eq_some_iff] at h
        obtain ⟨s', hs', x', hx', h⟩ := h
        have := copyC_sound hH (hρ _ _ hs') (hρ _ _ hx') h argTypes ht0 type (args.map ρ') (by simp [hs]) (by simp [hx])
        simpa [resolve, invoke, builtin] using this
      · cases h
    · split at h
      · rename_i x t0 hx ht0
        simp only [Option.bind_eq_some_iff] at h
        obtain ⟨x', hx', h⟩ := h
        have := clearC_sound hH (hρ _ _ hx') h argTypes ht0 type (args.map ρ') (by simp [hx])
        simpa [resolve, invoke, builtin] using this
      · cases h
    · split at h
      · rename_i s x t0 hs hx ht0
        simp only [Option.bind_eq_some_iff] at h
        obtain ⟨s', hs', x', hx', h⟩ := h
        have := deleteC_sound hH (hρ _ _ hs') (hρ _ _ hx') h argTypes ht0 type (args.map ρ') (by simp [hs]) (by simp [hx])
        simpa [resolve, invoke, builtin] using this
      · cases h
    · cases h
end
end Go.K

namespace Go.K
set_option linter.unusedSimpArgs false
set_option linter.unusedVariables false

inductive CE where
  | normal
  | exit (id : Nat)
  | ret

def putC (nt : Nat) (env : Env) (dst : Option Tmp) (v : CV) : Option Env :=
  match dst with
  | none => some env
  | some d => match Nat.blt d nt with
    | true => some (env.set d v)
    | false => none

/-- Is the operation wanted? (none: its guard is not known.) -/
def wantedC (ops : Array Oper) (env : Env) (o : Oper) : Option Bool :=
  match o.guard with
  | none => some true
  | some (j, want) => match (ops[j]?).bind (·.dst) with
    | some t => match env.get t with
      | some (.bool b) => some (b == want)
      | some _ => some false
      | none => none
    | none => some false

def methodC (P : Program) (H : Heap) (t : TypeId) (v : CV) (name : String) : Option (FuncId × CV) :=
  match P.info? t with
  | some i => match i.methods.find? (·.name == name) with
    | some m => match m.path.toList, m.func, P.underlying t with
      | [], some (f, true), some (.pointer _) => some (f, v)
      | [], some (f, false), some (.pointer e) => match v with
        | .ptr b off => (loadC P e H b off).map fun r => (f, r)
        | _ => none
      | [], some (f, false), some _ => some (f, v)
      | _, _, _ => none
    | none => none
  | none => none

/-- Which function a call enters, and with what. -/
def targetC (P : Program) (ρ : Operand → Option CV) (H : Heap) (c : Call) : Option (FuncId × List CV) :=
  match c.callee with
  | .value f => match ρ f with
    | some (.func (.func g) fi ca) => (evs ρ c.args).map fun args => (g, fi ++ args ++ ca)
    | _ => none
  | .invoke r name => match ρ r with
    | some (.iface t v) => (evs ρ c.args).bind fun args => (methodC P H t v name).map fun (f, r) => (f, r :: args)
    | _ => none
  | .builtin _ => none

def isCall : Op → Option Call
  | .call c => match c.callee with
    | .builtin _ => none
    | _ => some c
  | _ => none

abbrev CallFn := FuncId → List CV → Heap → Option (CV × Heap)

/-- One loud operation, calls among them. -/
def loudStep (call : CallFn) (P : Program) (op : Op) (ρ : Operand → Option CV) (H : Heap) : Option (CV × Heap) :=
  match isCall op with
  | some c => (targetC P ρ H c).bind fun (f, args) => call f args H
  | none => loudC P op ρ H

def stepC (call : CallFn) (P : Program) (op : Op) (ρ : Operand → Option CV) (H : Heap) : Option (CV × Heap) :=
  match kindOf P op with
  | .quiet => (quietC P op ρ H).map fun v => (v, H)
  | .alloc => (allocC P op ρ).map fun (co, f) => (f H.next, (H.skip 1).put H.next co)
  | .loud => loudStep call P op ρ H

def opsSeq (call : CallFn) (P : Program) (nt : Nat) (ops : Array Oper) : List Oper → Env → Heap → Option (Env × Heap)
  | [], env, H => some (env, H)
  | o :: os, env, H => match wantedC ops env o with
    | none => none
    | some false => match putC nt env o.dst (.tuple []) with
      | some env => opsSeq call P nt ops os env H
      | none => none
    | some true => match stepC call P o.op (evC env) H with
      | some (v, H) => match putC nt env o.dst v with
        | some env => opsSeq call P nt ops os env H
        | none => none
      | none => none

def envOf : List CV → Nat → Env → Env
  | [], _, env => env
  | v :: vs, i, env => envOf vs (i + 1) (env.set i v)

def resultC (P : Program) (env : Env) (H : Heap) : ResultVar → Option CV
  | .tmp t => env.get t
  | .cell a t => match env.get a with
    | some (.ptr b off) => loadC P t H b off
    | _ => none
def resultsC (P : Program) (rs : List ResultVar) (env : Env) (H : Heap) : Option CV :=
  (mapO (resultC P env H) rs).map fun l => match l with
    | [v] => v
    | l => .tuple l

section
variable {P : Program} {η : Eta} {H : Heap} {w : World}

/-- What a call that the evaluator carries out is in the world. -/
def Invokes (P : Program) (f : FuncId) (args : Array Value) (w : World) (R : Ending → World → Prop) : Prop :=
  ((callFunc f args).run P w = .ok (.enter f args) w ∧ Calls P f args w R) ∨ ∃ v w', (callFunc f args).run P w = .ok (.value v) w' ∧ R (.returned v) w'

def CallPost (η : Eta) (H : Heap) (w : World) (r : CV) (H' : Heap) : Ending → World → Prop :=
  fun e w' => ∃ η' v, e = .returned v ∧ r.val η' = some v ∧ HRel η' H' w' ∧ Keeps η H w η' w'

def CallOK (P : Program) (call : CallFn) : Prop :=
  ∀ f args H r H', call f args H = some (r, H') → Grows H H' ∧ ∀ η w vs, HRel η H w → CV.vals η args = some vs → Invokes P f vs.toArray w (CallPost η H w r H')

/-- How local variables stand to the frame's. -/
structure ARel (η : Eta) (nt : Nat) (env : Env) (a : Act) : Prop where
  defers : a.defers = []
  size : a.tmps.size = nt
  get : ∀ t c, env.get t = some c → ∃ v, c.val η = some v ∧ a.tmps[t]? = some v

theorem ARel.mono {η η' : Eta} {nt : Nat} {env : Env} {a : Act} (h : ARel η nt env a) (hle : η.le η') : ARel η' nt env a :=
  ⟨h.defers, h.size, fun t c hc => let ⟨v, hv, ht⟩ := h.get t c hc; ⟨v, CV.val_mono hle _ _ hv, ht⟩⟩

theorem evC_sound {nt : Nat} {env : Env} {a : Act} (h : ARel η nt env a) (x : Operand) (c : CV) (e : evC env x = some c) : c.val η = some (a.eval x) := by
  cases x with
  | tmp t =>
    obtain ⟨v, hv, ht⟩ := h.get t c e
    simp only [Act.eval, Array.getD_eq_getD_getElem?, ht, Option.getD_some, hv]
  | const v => exact ofVal_sound 8 v c e
  | global g => simp [evC] at e
  | func f => simp only [evC, Option.some.injEq] at e; subst e; rfl

theorem putC_sound {nt : Nat} {env env' : Env} {a : Act} {dst : Option Tmp} {c : CV} {v : Value} (h : ARel η nt env a) (e : putC nt env dst c = some env') (hv : c.val η = some v) : ARel η nt env' (a.put dst v) := by
  cases dst with
  | none => simp only [putC, Option.some.injEq] at e; subst e; exact h
  | some d =>
    simp only [putC] at e
    split at e
    · rename_i hlt
      injection e with e; subst e
      have hlt' : d < nt := by simpa [Nat.blt_eq] using hlt
      refine ⟨h.defers, by simp [Act.put, h.size], fun t c' ht => ?_⟩
      rw [Tr.get_set] at ht
      split at ht
      · rename_i e; subst e
        injection ht with ht; subst ht
        exact ⟨v, hv, by simp [Act.put, h.size, hlt']⟩
      · rename_i ne
        obtain ⟨u, hu, htu⟩ := h.get t c' ht
        exact ⟨u, hu, by simp only [Act.put]; rw [Array.getElem?_setIfInBounds_ne (Ne.symm ne)]; exact htu⟩
    · cases e

theorem wantedC_sound {ops : Array Oper} {nt : Nat} {env : Env} {a : Act} {o : Oper} {b : Bool} (h : ARel η nt env a) (e : wantedC ops env o = some b) : Region.wanted o (yielded ops a.tmps) = b := by
  unfold wantedC at e
  unfold Region.wanted
  split at e
  · rename_i hg; rw [hg]; injection e
  · rename_i j want hg
    rw [hg]
    simp only
    unfold yielded
    split at e
    · rename_i t ht
      rw [ht]
      split at e
      · rename_i b' hb
        obtain ⟨v, hv, htv⟩ := h.get t _ hb
        rw [val_bool hv] at htv
        injection e with e; subst e
        simp only [Option.bind_some, htv]
        cases b' <;> cases want <;> rfl
      · rename_i c hne hc
        obtain ⟨v, hv, htv⟩ := h.get t _ hc
        injection e with e; subst e
        simp only [Option.bind_some, htv]
        have : ∀ b, v ≠ .bool b := by
          intro b e
          subst e
          cases c with
          | bool b' => exact hne b' rfl
          | slice b off len cap => obtain ⟨a, c, e⟩ := val_slice hv; cases e
          | func fn a b => obtain ⟨l, m, _, _, e⟩ := val_func hv; cases e
          | iface t c => obtain ⟨l, _, e⟩ := val_iface hv; cases e
          | agg cs => obtain ⟨l, _, e⟩ := vals_agg hv; cases e
          | tuple cs => obtain ⟨l, _, e⟩ := val_tuple hv; cases e
          | ptr b off => obtain ⟨x, _, e⟩ := val_ptr hv; cases e
          | map b => obtain ⟨x, _, e⟩ := val_map hv; cases e
          | _ => simp [CV.val] at hv
        cases v <;> first | (exact absurd rfl (this _)) | (cases want <;> rfl)
      · cases e
    · rename_i hn
      injection e with e; subst e
      rw [hn]
      cases want <;> rfl

theorem methodC_sound (hH : HRel η H w) {t : TypeId} {v : CV} {v' : Value} {name : String} {f : FuncId} {r : CV} (hv : v.val η = some v') (h : methodC P H t v name = some (f, r)) :
    ∃ r', r.val η = some r' ∧ (method (P.types.size + Made.depth) t v' name).run P w = .ok (f, r') w := by
  have hfuel : P.types.size + Made.depth = (P.types.size + 99) + 1 := rfl
  rw [hfuel]
  generalize P.types.size + 99 = fuel
  unfold methodC at h
  split at h
  · rename_i i hi
    split at h
    · rename_i m hm
      split at h
      · rename_i f' e hp hf hu
        simp only [Option.some.injEq, Prod.mk.injEq] at h
        obtain ⟨rfl, rfl⟩ := h
        refine ⟨v', hv, ?_⟩
        simp only [method, typeInfo, Sem.run_bind, run_program, Result.andThen_ok, hi, Sem.run_pure, hm, hp, follow, hf, receiverAt, und_run hu, Place.get]
      · rename_i f' e hp hf hu
        split at h
        · rename_i b off
          simp only [Option.map_eq_some_iff, Prod.mk.injEq] at h
          obtain ⟨r0, hr0, rfl, rfl⟩ := h
          obtain ⟨x, hx, rfl⟩ := val_ptr hv
          obtain ⟨r', hr', hrun⟩ := loadC_sound (P := P) hH hx hr0
          refine ⟨r', hr', ?_⟩
          have hemp : m.path.isEmpty = true := by
            have : m.path = #[] := Array.toList_inj.1 hp
            simp [this]
          simp only [method, typeInfo, Sem.run_bind, run_program, Result.andThen_ok, hi, Sem.run_pure, hm, hp, follow, hf, receiverAt, und_run hu, Place.get, hemp, if_true]
          have hw : ∀ (s m : ByteArray), (Builtin.ssaWrapNilChk_ #[t] t #[.pointer (some ⟨x.blk, x.base + off, none⟩), .string s, .string m]).run P w = .ok (.pointer (some ⟨x.blk, x.base + off, none⟩)) w := fun s m => rfl
          simp only [strVal, hw, Result.andThen_ok, asAddr, Sem.run_pure, Sem.run_bind, hrun]
        · cases h
      · rename_i f' d hd hp hf hu
        simp only [Option.some.injEq, Prod.mk.injEq] at h
        obtain ⟨rfl, rfl⟩ := h
        refine ⟨v', hv, ?_⟩
        simp only [method, typeInfo, Sem.run_bind, run_program, Result.andThen_ok, hi, Sem.run_pure, hm, hp, follow, hf, receiverAt, und_run hu, Place.get]
      · cases h
    · cases h
  · cases h

/-- What a call's operation comes to. -/
theorem targetC_sound (hH : HRel η H w) {ρ : Operand → Option CV} {ρ' : Operand → Value} (hρ : ∀ x c, ρ x = some c → c.val η = some (ρ' x)) {c : Call} {f : FuncId} {args : List CV} (ty : TypeId) (h : targetC P ρ H c = some (f, args)) :
    ∃ vs, CV.vals η args = some vs ∧ (do let d ← resolve ρ' c ty; invoke d.target d.args : Sem Next).run P w = (callFunc f vs.toArray).run P w := by
  obtain ⟨callee, cargs, argTypes⟩ := c
  unfold targetC at h
  split at h
  · rename_i fo hc
    simp only at hc; subst hc
    split at h
    · rename_i g fi ca hf
      simp only [Option.map_eq_some_iff, Prod.mk.injEq] at h
      obtain ⟨as, has, rfl, rfl⟩ := h
      obtain ⟨lf, lc, hlf, hlc, hfv⟩ := val_func (hρ _ _ hf)
      have hav := evs_sound hρ has
      refine ⟨lf ++ (cargs.toList.map ρ') ++ lc, CV.vals_append (CV.vals_append hlf hav) hlc, ?_⟩
      simp only [resolve, hfv, Deferred.ofValue, Sem.run_bind, Sem.run_pure, Result.andThen_ok, invoke]
      congr 2
      apply Array.toList_inj.1
      simp
    · cases h
  · rename_i r name hc
    simp only at hc; subst hc
    split at h
    · rename_i t v hr
      simp only [Option.bind_eq_some_iff, Option.map_eq_some_iff, Prod.mk.injEq] at h
      obtain ⟨as, has, ⟨f', r'⟩, hm, rfl, rfl⟩ := h
      obtain ⟨v', hv, hrv⟩ := val_iface (hρ _ _ hr)
      obtain ⟨r2, hr2, hrun⟩ := methodC_sound hH hv hm
      have hav := evs_sound hρ has
      refine ⟨r2 :: cargs.toList.map ρ', by simp [CV.vals, hr2, hav], ?_⟩
      have hext : (#[Value.iface t v'] ++ cargs.map ρ').extract 1 (#[Value.iface t v'] ++ cargs.map ρ').size = cargs.map ρ' := by
        apply Array.toList_inj.1
        simp only [Array.toList_extract, List.extract_eq_take_drop, Array.toList_append, Array.toList_map, List.cons_append, List.nil_append, List.drop_succ_cons, List.drop_zero]
        exact List.take_of_length_le (by simp)
      have h0 : (#[Value.iface t v'] ++ cargs.map ρ')[0]? = some (.iface t v') := by rw [Array.getElem?_append_left (by simp)]; rfl
      simp only [resolve, Sem.run_bind, Sem.run_pure, Result.andThen_ok, invoke, hrv, h0, hext, callMethod, run_program, hrun]
      congr 2
      apply Array.toList_inj.1
      simp
    · cases h
  · cases h
end
end Go.K

namespace Go.K
set_option linter.unusedSimpArgs false
set_option linter.unusedVariables false

structure Moved (η : Eta) (H : Heap) (w : World) (η' : Eta) (H' : Heap) (w' : World) : Prop where
  rel : HRel η' H' w'
  keeps : Keeps η H w η' w'
  grows : Grows H H'

section
variable {P : Program} {η : Eta} {H : Heap} {w : World}

theorem Moved.refl (hH : HRel η H w) : Moved η H w η H w := ⟨hH, Keeps.refl .., Grows.refl H⟩
theorem Moved.trans {η2 η3 : Eta} {H2 H3 : Heap} {w2 w3 : World} (hH : HRel η H w) (h : Moved η H w η2 H2 w2) (k : Moved η2 H2 w2 η3 H3 w3) : Moved η H w η3 H3 w3 := by
  refine ⟨k.rel, keeps_trans hH h.keeps k.keeps h.grows.1 ?_, h.grows.trans k.grows⟩
  intro b o x hb hx
  rcases h.grows.2 b o hb.1 with ⟨o0, h0, h0'⟩ | h0
  · obtain ⟨x0, hx0, _⟩ := hH.obj b o0 h0
    have := h.keeps.le b x0 hx0
    rw [hx] at this; injection this with this; subst this
    exact .inl ⟨o0, x, b, ⟨h0, h0'.trans hb.2⟩, hx0, rfl⟩
  · have hn : η b = none := by
      cases e : η b with
      | none => rfl
      | some y => exact absurd (hH.dom _ _ e) (by omega)
    rcases (h.keeps.fresh b x hn hx).2 with h1 | ⟨b0, o0, x0, h1, h2, h3⟩
    · exact .inr h1
    · exact .inl ⟨o0, x0, b0, h1, h2, h3⟩
theorem Moved.drawn' {η2 : Eta} {H2 : Heap} {w2 : World} (h : Moved η H (drawn w) η2 H2 w2) : Moved η H w η2 H2 w2 := ⟨h.rel, keeps_drawn h.keeps, h.grows⟩

theorem alloc_moved (hH : HRel η H w) {ρ : Operand → Option CV} {ρ' : Operand → Value} (hρ : ∀ x c, ρ x = some c → c.val η = some (ρ' x)) (o : Oper) {b : Nat} {co : CObj} {f : Nat → CV}
    (hb : b < H.next) (hn : η b = none) (h : allocC P o.op ρ = some (co, f)) :
    ∃ obj v x, (execOp ρ' o).run P w = .ok (.value v) (pushed w obj) ∧ (f b).val (η.ins b x) = some v ∧ HRel (η.ins b x) (H.put b co) (pushed w obj) ∧ x.blk = w.heap.size := by
  obtain ⟨obj, v, x, hrun, hx, hv, hor, hf⟩ := alloc_sound hH hρ o hn h
  exact ⟨obj, v, x, hrun, hv, hH.fill hb hn hf hx (fun k hk => pushed_lt w obj hk) hor, hx⟩

theorem step_sound {call : CallFn} (hcall : CallOK P call) {nt : Nat} {env : Env} {a : Act} {o : Oper} {c : CV} {H' : Heap} {K : Act → World → Prop} {Q : Exit → Act → World → Prop}
    (ha : ARel η nt env a) (hH : HRel η H w) (h : stepC call P o.op (evC env) H = some (c, H')) (hK : ∀ η' v w', c.val η' = some v → Moved η H w η' H' w' → K (a.put o.dst v) w') : o.wp P a w K Q := by
  have hρ := fun x c e => evC_sound ha x c e
  unfold Oper.wp
  unfold stepC at h
  split at h
  · simp only [Option.map_eq_some_iff, Prod.mk.injEq] at h
    obtain ⟨v, hv, rfl, rfl⟩ := h
    obtain ⟨v', hv', hr⟩ := quiet_sound hH hρ o hv
    rw [hr, Oper.upon_value]
    exact hK η v' w hv' (Moved.refl hH)
  · simp only [Option.map_eq_some_iff, Prod.mk.injEq] at h
    obtain ⟨⟨co, f⟩, hal, rfl, rfl⟩ := h
    have hn : η H.next = none := by
      cases e : η H.next with
      | none => rfl
      | some y => exact absurd (hH.dom _ _ e) (Nat.lt_irrefl _)
    obtain ⟨obj, v, x, hr, hv, hrel, hx⟩ := alloc_moved (hH.skip 1) hρ o (b := H.next) (Nat.lt_succ_self _) hn hal
    rw [hr, Oper.upon_value]
    refine hK (η.ins H.next x) v _ hv ⟨hrel, ⟨rfl, rfl, rfl, by simp [pushed], fun k hk _ => pushed_lt w _ hk, Eta.le_ins hn, fun b y h1 h2 => ?_⟩, Grows.fill⟩
    by_cases e : b = H.next
    · subst e
      rw [Eta.ins_same] at h2; injection h2 with h2; subst h2
      exact ⟨Nat.le_refl _, .inl (Nat.le_of_eq hx.symm)⟩
    · rw [Eta.ins_ne _ _ e, h1] at h2; cases h2
  · unfold loudStep at h
    split at h
    · rename_i cl hcl
      simp only [Option.bind_eq_some_iff] at h
      obtain ⟨⟨f, args⟩, ht, hc⟩ := h
      simp only at hc
      obtain ⟨dst, op, type, pos, after, guard⟩ := o
      have hop : op = .call cl := by
        simp only at hcl
        unfold isCall at hcl
        split at hcl
        · split at hcl
          · cases hcl
          · injection hcl with hcl; rw [hcl]
        · cases hcl
      subst hop
      obtain ⟨vs, hvs, hrun⟩ := targetC_sound hH hρ type ht
      obtain ⟨hg, hinv⟩ := hcall f args H c H' hc
      simp only [execOp]
      rw [hrun]
      rcases hinv η w vs hH hvs with ⟨he, hcalls⟩ | ⟨v, w', hval, η', v', e, hv', hrel, hk⟩
      · rw [he, Oper.upon_enter]
        refine hcalls.mono ?_
        rintro e w' ⟨η', v, rfl, hv, hrel, hk⟩
        exact hK η' v w' hv ⟨hrel, hk, hg⟩
      · rw [hval, Oper.upon_value]
        injection e with e; subst e
        exact hK η' v w' hv' ⟨hrel, hk, hg⟩
    · obtain ⟨η', v, w', hv, hr, hrel, hk⟩ := loud_sound hH hρ o h
      have hg := loudC_grows h
      rcases hr with hr | ⟨hr, rfl⟩
      · rw [hr, Oper.upon_value]; exact hK η' v w' hv ⟨hrel, hk, hg⟩
      · rw [hr, Oper.upon_skip]; exact hK η' undef w' hv ⟨hrel, hk, hg⟩

theorem seq_sound {call : CallFn} (hcall : CallOK P call) {nt : Nat} {ops : Array Oper} {Q : Exit → Act → World → Prop} : ∀ {os : List Oper} {env env' : Env} {H H' : Heap} {η : Eta} {a : Act} {w : World},
    opsSeq call P nt ops os env H = some (env', H') → ARel η nt env a → HRel η H w →
    (∀ η' a' w', ARel η' nt env' a' → Moved η H w η' H' w' → Q .normal a' w') → wpList P ops Q os a w
  | [], env, env', H, H', η, a, w, h, ha, hH, hQ => by
    simp only [opsSeq, Option.some.injEq, Prod.mk.injEq] at h
    obtain ⟨rfl, rfl⟩ := h
    exact hQ η a w ha (Moved.refl hH)
  | o :: os, env, env', H, H', η, a, w, h, ha, hH, hQ => by
    unfold opsSeq at h
    unfold wpList
    split at h
    · cases h
    · rename_i hw
      rw [if_neg (by rw [wantedC_sound ha hw]; simp)]
      split at h
      · rename_i env1 hp
        exact seq_sound hcall h (putC_sound ha hp rfl) hH hQ
      · cases h
    · rename_i hw
      rw [if_pos (wantedC_sound ha hw)]
      split at h
      · rename_i v H1 hst
        split at h
        · rename_i env1 hp
          refine .inl (step_sound hcall ha hH hst ?_)
          intro η' v' w' hv hm
          refine seq_sound hcall h (putC_sound (ha.mono hm.keeps.le) hp hv) hm.rel ?_
          intro η2 a2 w2 ha2 hm2
          exact hQ η2 a2 w2 ha2 (Moved.trans hH hm hm2)
        · cases h
      · cases h
end
end Go.K
