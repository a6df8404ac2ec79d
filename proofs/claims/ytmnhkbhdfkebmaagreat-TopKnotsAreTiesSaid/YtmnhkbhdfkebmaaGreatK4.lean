/- Operations that write memory (1): stores, maps, iterators, conversions. Operations that write memory (2). Operations that write memory (3): iterators, conversions between strings and bytes. -/
import Derived.Test.YtmnhkbhdfkebmaaGreatK3

set_option linter.unusedSimpArgs false
set_option linter.unusedVariables false

namespace Go.K
set_option linter.unusedSimpArgs false
set_option linter.unusedVariables false

/-- The step that a loud operation is: what it gives, and both memories behind it. -/
def Goes (η : Eta) (H : Heap) (w : World) (r : Result Next) (c : CV) (H' : Heap) : Prop :=
  ∃ η' v w', c.val η' = some v ∧ (r = .ok (.value v) w' ∨ (r = .ok .skip w' ∧ v = undef)) ∧ HRel η' H' w' ∧ Keeps η H w η' w'

def writeC (H : Heap) (b off : Nat) (vs : List CV) : Option Heap :=
  match H.get b with
  | some (.cells cs e f) => match Nat.ble (off + vs.length) cs.length && vs.all CV.single with
    | true => some (H.upd b (.cells (splice cs off vs) e f) off)
    | false => none
  | _ => none

section
variable {P : Program} {η : Eta} {H : Heap} {w : World}

theorem single_val {c : CV} {v : Value} (h : c.val η = some v) (hs : c.single = true) : v.oneCell' = true := by
  cases c with
  | slice b off len cap => obtain ⟨a, c, rfl⟩ := val_slice h; rfl
  | func fn a b => obtain ⟨l, m, _, _, rfl⟩ := val_func h; rfl
  | iface t c => obtain ⟨l, _, rfl⟩ := val_iface h; rfl
  | agg cs => simp [CV.single] at hs
  | tuple cs => simp [CV.single] at hs
  | ptr b off => obtain ⟨x, _, rfl⟩ := val_ptr h; rfl
  | map b => obtain ⟨x, _, rfl⟩ := val_map h; rfl
  | _ => simp [CV.val] at h; subst h; rfl
theorem singles_val : ∀ {cs : List CV} {l : List Value}, CV.vals η cs = some l → cs.all CV.single = true → ∀ v ∈ l, v.oneCell' = true
  | [], l, h, _, v, hv => by simp [CV.vals] at h; subst h; simp at hv
  | c :: cs, l, h, hs, v, hv => by
    simp only [CV.vals, Option.bind_eq_some_iff, Option.map_eq_some_iff] at h
    obtain ⟨u, hu, l', hl, rfl⟩ := h
    simp only [List.all_cons, Bool.and_eq_true] at hs
    rcases List.mem_cons.1 hv with rfl | hv
    · exact single_val hu hs.1
    · exact singles_val hl hs.2 v hv

/-- The world with one block of cells written anew. -/
structure Wrote (n : Nat) (w w' : World) : Prop where
  os : w'.os = w.os
  tape : w'.tape = w.tape
  output : w'.output = w.output
  size : w'.heap.size = w.heap.size
  other : ∀ k, k ≠ n → w'.heap[k]? = w.heap[k]?

theorem storeCells_run {n : Nat} {e : TypeId} {fr : Nat × Nat} {off : Nat} : ∀ (vs : List Value) (i : Nat) (w : World) (L : List Value), w.heap[n]? = some (.cells L.toArray e fr) →
    off + i + vs.length ≤ L.length → thaw fr L.length → (∀ v ∈ vs, v.oneCell' = true) →
    ∃ w', (storeCells ⟨n, off, none⟩ vs i).run P w = .ok () w' ∧ Wrote n w w' ∧ w'.heap[n]? = some (.cells (L.take (off + i) ++ vs ++ L.drop (off + i + vs.length)).toArray e fr)
  | [], i, w, L, hL, hle, hth, hv => ⟨w, rfl, ⟨rfl, rfl, rfl, rfl, fun _ _ => rfl⟩, by simpa using hL⟩
  | v :: vs, i, w, L, hL, hle, hth, hv => by
    simp only [List.length_cons] at hle
    have hlt : n < w.heap.size := (Array.getElem?_eq_some_iff.1 hL).1
    have hcell : ∃ u, w.cell? ⟨n, off + i, none⟩ = some u := by
      simp only [World.cell?, hL, Option.isSome_none, Bool.false_eq_true, if_false, List.getElem?_toArray]
      exact ⟨_, List.getElem?_eq_getElem (by omega)⟩
    obtain ⟨u, hu⟩ := hcell
    have hfr : w.frozen? ⟨n, off + i, none⟩ = false := by
      simp only [World.frozen?, hL]
      have := hth (off + i) (by omega)
      simp only [Bool.and_eq_false_iff, decide_eq_false_iff_not]
      by_cases h1 : fr.1 ≤ off + i
      · exact .inr fun h2 => this ⟨h1, h2⟩
      · exact .inl h1
    have hrun : (store ((⟨n, off, none⟩ : Addr).add i) v).run P w = .ok () (w.setCell ⟨n, off + i, none⟩ v) := by
      rw [Addr.add_mk, run_store P w _ v .plain (hv v (by simp)), hu]
      simp [hfr]
    have hset : (w.setCell ⟨n, off + i, none⟩ v).heap[n]? = some (.cells (L.set (off + i) v).toArray e fr) := by
      simp only [World.setCell, Array.getElem?_modify, hL, if_true, Option.map_some, Option.isSome_none, Bool.false_eq_true, if_false]
      simp
    obtain ⟨w', hw', hwr, hcells⟩ := storeCells_run (off := off) vs (i + 1) (w.setCell ⟨n, off + i, none⟩ v) (L.set (off + i) v) hset (by simp; omega) (by simpa using hth) (fun u hu => hv u (by simp [hu]))
    refine ⟨w', ?_, ?_, ?_⟩
    · simp only [storeCells, Sem.run_bind, hrun, Result.andThen_ok, hw']
    · refine ⟨hwr.os, hwr.tape, hwr.output, hwr.size.trans (by simp [World.setCell]), fun k hk => (hwr.other k hk).trans ?_⟩
      simp only [World.setCell, Array.getElem?_modify]
      rw [if_neg (fun e => hk e.symm)]
    · rw [hcells]
      congr 2
      have hlt' : off + i < L.length := by omega
      rw [show off + (i + 1) = off + i + 1 by omega, List.take_succ_eq_append_getElem (by simpa using hlt')]
      rw [show off + i + 1 + vs.length = off + i + (v :: vs).length by simp; omega]
      have h1 : (L.set (off + i) v).take (off + i) = L.take (off + i) := by rw [List.take_set_of_le (Nat.le_refl _)]
      have h2 : (L.set (off + i) v).drop (off + i + (v :: vs).length) = L.drop (off + i + (v :: vs).length) := by
        rw [List.drop_set_of_lt]
        simp only [List.length_cons]; omega
      rw [h1, h2]
      simp

theorem wrote_keeps {x : Loc} {b : Nat} {o : CObj} {w' : World} (hb : H.get b = some o) (hl : o.isLook = false) (hx : η b = some x) (h : Wrote x.blk w w') : Keeps η H w η w' :=
  ⟨h.os, h.tape, h.output, Nat.le_of_eq h.size.symm, fun k _ hk => h.other k fun e => hk b o x ⟨hb, hl⟩ hx e.symm, η.le_refl, fun b y h1 h2 => by rw [h1] at h2; cases h2⟩

theorem take_mid {α : Type} (pre l rest : List α) {k : Nat} (h : k ≤ l.length) : (pre ++ l ++ rest).take (pre.length + k) = pre ++ l.take k := by
  rw [List.append_assoc, List.take_length_add_append, List.take_append_of_le_length h]
theorem drop_mid {α : Type} (pre l rest : List α) {k : Nat} (h : k ≤ l.length) : (pre ++ l ++ rest).drop (pre.length + k) = l.drop k ++ rest := by
  rw [List.append_assoc, List.drop_length_add_append, List.drop_append_of_le_length h]

/-- A store into clean memory. -/
theorem write_sound (hH : HRel η H w) {b off : Nat} {x : Loc} (hx : η b = some x) {vs : List CV} {l' : List Value} {H' : Heap} (hv : CV.vals η vs = some l') (h : writeC H b off vs = some H') :
    ∃ w', (storeCells ⟨x.blk, x.base + off, none⟩ l').run P w = .ok () w' ∧ HRel η H' w' ∧ Keeps η H w η w' := by
  unfold writeC at h
  split at h
  · rename_i cs e f hb
    split at h
    · rename_i hok
      simp only [Bool.and_eq_true] at hok
      have hle := Nat.le_of_ble_eq_true hok.1
      injection h with h; subst h
      obtain ⟨y, hy, pre, l, rest, fr, hl, hw, hpre, hlen, hfam, hth⟩ := hH.obj _ _ hb
      rw [hx] at hy; injection hy with hy; subst hy
      have hll := CV.vals_length hl
      have hvl := CV.vals_length hv
      obtain ⟨w', hw', hwr, hcells⟩ := storeCells_run (P := P) (off := x.base + off) l' 0 w (pre ++ l ++ rest) hw (by simp; omega) hth (singles_val hv hok.2)
      refine ⟨w', hw', ?_, wrote_keeps hb rfl hx hwr⟩
      have hform : (pre ++ l ++ rest).take (x.base + off + 0) ++ l' ++ (pre ++ l ++ rest).drop (x.base + off + 0 + l'.length) = pre ++ (l.take off ++ l' ++ l.drop (off + l'.length)) ++ rest := by
        rw [Nat.add_zero, ← hpre, take_mid _ _ _ (by omega), Nat.add_assoc, drop_mid _ _ _ (by omega)]
        simp
      refine hH.upd hb hx hwr.other ⟨pre ++ l ++ rest, _, fr, hw, hcells, ?_, ?_⟩ ?_
      · rw [hform]; simp; omega
      · rw [hform, ← hpre, take_mid pre l rest (by omega)]
        rw [List.append_assoc (l.take off), take_mid pre _ rest (by simp only [List.length_append, List.length_take]; omega)]
        rw [List.take_append_of_le_length (by rw [List.length_take]; omega), List.take_take, Nat.min_self]
      · refine ⟨pre, l.take off ++ l' ++ l.drop (off + l'.length), rest, fr, splice_vals off hl hv, by rw [hcells, hform], hpre, ?_, hfam, ?_⟩
        · rw [← hlen]; simp; omega
        · have : (pre ++ (l.take off ++ l' ++ l.drop (off + l'.length)) ++ rest).length = (pre ++ l ++ rest).length := by simp; omega
          rw [this]; exact hth
    · cases h
  · cases h
end
end Go.K

namespace Go.K
set_option linter.unusedSimpArgs false
set_option linter.unusedVariables false

/-- Values that are the same to the sign, of the kinds that keys are. -/
def beqK : Nat → CV → CV → Bool
  | _, .bool a, .bool b => a == b
  | _, .int j a, .int k b => match decide (j = k) with | true => ieq a b | false => false
  | _, .str a, .str b => bytesEq a.data.toList b.data.toList
  | d + 1, .agg xs, .agg ys => go d xs ys
  | _, _, _ => false
  where go (d : Nat) : List CV → List CV → Bool
  | [], [] => true
  | x :: xs, y :: ys => match beqK d x y with | true => go d xs ys | false => false
  | _, _ => false

def storeC (P : Program) (t : TypeId) (H : Heap) (a v : CV) : Option (CV × Heap) :=
  match a with
  | .ptr b off => match szC P t with
    | some n => match Nat.beq v.cells.length n with
      | true => (writeC H b off v.cells).map fun H' => (.tuple [], H')
      | false => none
    | none => none
  | _ => none

def setEntry (es : List (CV × CV × Nat)) (i : Nat) (k v : CV) : Option (List (CV × CV × Nat)) :=
  match es[i]? with
  | some (k', _, born) => match beqK 8 k' k with
    | true => some (es.set i (k, v, born))
    | false => none
  | none => none

def updateC (P : Program) (t : TypeId) (H : Heap) (m k v : CV) : Option (CV × Heap) :=
  match P.underlying t with
  | some (.map kt _) => match m with
    | .map b => match H.get b with
      | some (.map es clock) => match keyC P 8 kt k with
        | true => match findC P kt k es 0 with
          | some (some (i, _)) => (setEntry es i k v).map fun es' => (.tuple [], H.put b (.map es' clock))
          | some none => some (.tuple [], H.put b (.map (es ++ [(k, v, clock)]) (clock + 1)))
          | none => none
        | false => none
      | _ => none
    | _ => none
  | _ => none

def deleteC (P : Program) (t : TypeId) (H : Heap) (m k : CV) : Option (CV × Heap) :=
  match P.underlying t with
  | some (.map kt _) => match m with
    | .map b => match H.get b with
      | some (.map es clock) => match keyC P 8 kt k with
        | true => match findC P kt k es 0 with
          | some (some (i, _)) => some (.tuple [], H.put b (.map (es.eraseIdx i) clock))
          | some none => some (.tuple [], H)
          | none => none
        | false => none
      | _ => none
    | _ => none
  | _ => none

def rangeC (P : Program) (t : TypeId) (H : Heap) (x : CV) : Option (CV × Heap) :=
  match P.underlying t, x with
  | some .string, .str s => some (.ptr H.next 0, H.newF (.strIter s 0))
  | some (.map _ _), .nilMap => some (.ptr H.next 0, H.newF (.mapIter none 0 [] 0))
  | some (.map _ _), .map m => match H.get m with
    | some (.map _ clock) => some (.ptr H.next 0, H.newF (.mapIter (some m) clock [] clock))
    | _ => none
  | _, _ => none

/-- The entries of a map that an iterator has not given yet. -/
def leftC (seen : List Nat) : List (CV × CV × Nat) → List (CV × CV × Nat)
  | [] => []
  | (k, v, b) :: es => match seen.contains b with
    | true => leftC seen es
    | false => (k, v, b) :: leftC seen es

def nextC (H : Heap) (x : CV) (isString : Bool) : Option (CV × Heap) :=
  match x with
  | .ptr r 0 => match H.get r, isString with
    | some (.strIter s pos), true => match Nat.blt pos s.size with
      | true => match Utf8.decode s pos with
        | (c, width) => some (.tuple [.bool true, .int .i64 pos, .int .i32 c], H.put r (.strIter s (pos + width)))
      | false => some (.tuple [.bool false], H)
    | some (.mapIter none _ _ _), false => some (.tuple [.bool false], H)
    | some (.mapIter (some m) since seen last), false => match H.get m with
      | some (.map es clock) => match !seen.isEmpty && !es.isEmpty && es.all (fun e => Nat.ble last e.2.2) with
        | true => none
        | false => match leftC seen es with
          | [] => some (.tuple [.bool false], H)
          | [(k, v, b)] => match Nat.blt b since with
            | true => some (.tuple [.bool true, k, v], H.put r (.mapIter (some m) since (seen ++ [b]) clock))
            | false => none
          | _ => none
      | _ => none
    | _, _ => none
  | _ => none

def findBorn (stamp : Nat) : List (CV × CV × Nat) → Option (CV × CV)
  | [] => none
  | (k, v, b) :: es => match Nat.beq b stamp with
    | true => some (k, v)
    | false => findBorn stamp es
def entryC (H : Heap) (x : CV) : Option CV :=
  match x with
  | .ptr r 0 => match H.get r with
    | some (.mapIter (some m) _ seen stepped) => match seen.getLast?, H.get m with
      | some stamp, some (.map es clock) => match Nat.beq clock stepped with
        | true => (findBorn stamp es).map fun (k, v) => .tuple [k, v]
        | false => none
      | _, _ => none
    | _ => none
  | _ => none

section
variable {P : Program} {η : Eta} {H : Heap} {w : World}

mutual
theorem beqK_eq : ∀ (d : Nat) (x y : CV), beqK d x y = true → x = y
  | d, x, y, h => by
    unfold beqK at h
    split at h
    · simp at h; rw [h]
    · split at h
      · rename_i hk; simp only [decide_eq_true_eq] at hk; rw [hk, (ieq_iff _ _).1 h]
      · cases h
    · rename_i a b
      rw [bytesEq_eq, beq_iff_eq] at h
      have : a.data = b.data := by
        have := congrArg List.toArray h
        simpa using this
      cases a; cases b; simp_all
    · rw [beqK_go _ _ _ h]
    · cases h
theorem beqK_go : ∀ (d : Nat) (xs ys : List CV), beqK.go d xs ys = true → xs = ys
  | d, [], [], h => rfl
  | d, [], _ :: _, h => by simp [beqK.go] at h
  | d, _ :: _, [], h => by simp [beqK.go] at h
  | d, x :: xs, y :: ys, h => by
    simp only [beqK.go] at h
    split at h
    · rename_i e; rw [beqK_eq d x y e, beqK_go d xs ys h]
    · cases h
end

theorem sameBits_of : ∀ (d : Nat) (x y : CV) (v : Value), beqK d x y = true → x.val η = some v → ∀ n, d ≤ n → Instr.sameBits n v v = true := by
  intro d
  induction d with
  | zero =>
    intro x y v h hv n hn
    unfold beqK at h
    split at h
    · rw [val_bool hv]; simp [Instr.sameBits]
    · rw [val_int hv]; simp [Instr.sameBits]
    · rw [val_str hv]; simp only [Instr.sameBits]; rw [beq_toListBytes]; simp
    · exact absurd (by assumption : 0 = Nat.succ _) (by omega)
    · cases h
  | succ d ih =>
    intro x y v h hv n hn
    unfold beqK at h
    split at h
    · rw [val_bool hv]; simp [Instr.sameBits]
    · rw [val_int hv]; simp [Instr.sameBits]
    · rw [val_str hv]; simp only [Instr.sameBits]; rw [beq_toListBytes]; simp
    · rename_i d' xs ys e
      injection e with e; subst e
      obtain ⟨l, hl, rfl⟩ := vals_agg hv
      obtain ⟨n, rfl⟩ : ∃ m, n = m + 1 := ⟨n - 1, by omega⟩
      simp only [Instr.sameBits, beq_self_eq_true, Bool.true_and]
      have : ∀ (xs ys : List CV) (l : List Value), beqK.go d xs ys = true → CV.vals η xs = some l → (l.zip l).all (fun x => Instr.sameBits n x.1 x.2) = true := by
        intro xs
        induction xs with
        | nil => intro ys l _ hl; simp [CV.vals] at hl; subst hl; rfl
        | cons x xs ihx =>
          intro ys l hg hl
          simp only [CV.vals, Option.bind_eq_some_iff, Option.map_eq_some_iff] at hl
          obtain ⟨v, hv, l', hl', rfl⟩ := hl
          cases ys with
          | nil => simp [beqK.go] at hg
          | cons y ys =>
            simp only [beqK.go] at hg
            split at hg
            · rename_i e
              simp only [List.zip_cons_cons, List.all_cons, Bool.and_eq_true]
              exact ⟨ih x y v e hv n (by omega), ihx ys l' hg hl'⟩
            · cases hg
      exact this xs ys l h hl
    · cases h

theorem storeC_sound (hH : HRel η H w) {t : TypeId} {a v : CV} {a' v' : Value} {c : CV} {H' : Heap} (ha : a.val η = some a') (hv : v.val η = some v') (h : storeC P t H a v = some (c, H')) :
    Goes η H w ((do Instr.storeAt t a' v'; pure Next.skip : Sem Next).run P w) c H' := by
  unfold storeC at h
  split at h
  · rename_i b off
    split at h
    · rename_i n hn
      split at h
      · rename_i hlen
        have hlen' := Nat.eq_of_beq_eq_true hlen
        simp only [Option.map_eq_some_iff, Prod.mk.injEq] at h
        obtain ⟨H1, hw1, rfl, rfl⟩ := h
        obtain ⟨x, hx, rfl⟩ := val_ptr ha
        have hcv := CV.cells_val hv
        obtain ⟨w', hw', hr, hk⟩ := write_sound (P := P) hH hx hcv hw1
        refine ⟨η, undef, w', rfl, .inr ⟨?_, rfl⟩, hr, hk⟩
        have hsz : v'.cells.size = n := by rw [← Array.length_toList, CV.vals_length hcv, hlen']
        simp only [Instr.storeAt, Instr.sureAddr, storeVar, Sem.run_bind, Sem.run_pure, Result.andThen_ok, szC_sound hn, hsz, ne_eq, not_true_eq_false, if_false, hw']
      · cases h
    · cases h
  · cases h

/-- A map of the world written anew. -/
def setMap (w : World) (n : Nat) (es : List MapEntry) (clock : Nat) : World := { w with heap := w.heap.setIfInBounds n (.map es.toArray clock) }
theorem setObj_sound (hH : HRel η H w) {b : Nat} {o o' : CObj} {x : Loc} {obj obj' : Obj} (hb : H.get b = some o) (hx : η b = some x) (hf : o.fam = none) (hf' : o'.fam = none)
    (hobj : w.heap[x.blk]? = some obj) (hno : ∀ c e f, obj ≠ .cells c e f)
    (ho : ∀ w' : World, w'.heap[x.blk]? = some obj' → ORel η x w' o') (hl : o.isLook = false := by rfl) :
    ∃ w', (setObj x.blk obj').run P w = .ok () w' ∧ HRel η (H.put b o') w' ∧ Keeps η H w η w' := by
  have hlt := (Array.getElem?_eq_some_iff.1 hobj).1
  have hw : Wrote x.blk w { w with heap := w.heap.setIfInBounds x.blk obj' } :=
    ⟨rfl, rfl, rfl, by simp, fun k hk => by simp [Array.getElem?_setIfInBounds_ne (Ne.symm hk)]⟩
  refine ⟨{ w with heap := w.heap.setIfInBounds x.blk obj' }, ?_, ?_, wrote_keeps hb hl hx hw⟩
  · simp only [setObj, Sem.run, hobj]
  · exact hH.put0 hb hx hf hf' hw.other (ho _ (by simp [Array.getElem?_setIfInBounds_self, hlt]))

theorem entryVals_set : ∀ {es : List (CV × CV × Nat)} {l : List MapEntry} {i : Nat} {k v : CV} {k' v' : Value} {k0 v0 : CV} {b : Nat}, entryVals η es = some l → es[i]? = some (k0, v0, b) → k.val η = some k' → v.val η = some v' →
    entryVals η (es.set i (k, v, b)) = some (l.set i ⟨k', v', b⟩) ∧ ∃ e, l[i]? = some e ∧ k0.val η = some e.key ∧ v0.val η = some e.val ∧ e.born = b
  | [], l, i, k, v, k', v', k0, v0, b, hl, hi, hk, hv => by simp at hi
  | (ck, cv, cb) :: es, l, i, k, v, k', v', k0, v0, b, hl, hi, hk, hv => by
    simp only [entryVals, Option.bind_eq_some_iff, Option.map_eq_some_iff] at hl
    obtain ⟨ck', hck, cv', hcv, l', hl', rfl⟩ := hl
    cases i with
    | zero =>
      simp only [List.getElem?_cons_zero, Option.some.injEq, Prod.mk.injEq] at hi
      obtain ⟨rfl, rfl, rfl⟩ := hi
      exact ⟨by simp [entryVals, hk, hv, hl'], _, rfl, hck, hcv, rfl⟩
    | succ i =>
      simp only [List.getElem?_cons_succ] at hi
      obtain ⟨h1, e, h2, h3, h4, h5⟩ := entryVals_set hl' hi hk hv
      exact ⟨by simp [entryVals, hck, hcv, h1], e, by simpa using h2, h3, h4, h5⟩
theorem entryVals_append : ∀ {es fs : List (CV × CV × Nat)} {l m : List MapEntry}, entryVals η es = some l → entryVals η fs = some m → entryVals η (es ++ fs) = some (l ++ m)
  | [], fs, l, m, h, h' => by simp [entryVals] at h; subst h; simpa using h'
  | (k, v, b) :: es, fs, l, m, h, h' => by
    simp only [entryVals, Option.bind_eq_some_iff, Option.map_eq_some_iff] at h
    obtain ⟨k', hk, v', hv, l', hl, rfl⟩ := h
    simp [entryVals, hk, hv, entryVals_append hl h']
theorem entryVals_erase : ∀ {es : List (CV × CV × Nat)} {l : List MapEntry} (i : Nat), entryVals η es = some l → entryVals η (es.eraseIdx i) = some (l.eraseIdx i)
  | [], l, i, h => by simp [entryVals] at h; subst h; rfl
  | (k, v, b) :: es, l, i, h => by
    simp only [entryVals, Option.bind_eq_some_iff, Option.map_eq_some_iff] at h
    obtain ⟨k', hk, v', hv, l', hl, rfl⟩ := h
    cases i with
    | zero => simpa using hl
    | succ i => simp [entryVals, hk, hv, entryVals_erase i hl]

theorem updateC_sound (hH : HRel η H w) {t : TypeId} {m k v : CV} {m' k' v' : Value} {c : CV} {H' : Heap} (hm : m.val η = some m') (hk : k.val η = some k') (hv : v.val η = some v') (h : updateC P t H m k v = some (c, H')) :
    Goes η H w ((do Instr.mapUpdate t m' k' v'; pure Next.skip : Sem Next).run P w) c H' := by
  unfold updateC at h
  split at h
  · rename_i kt et hu
    split at h
    · rename_i b
      split at h
      · rename_i es clock hb
        split at h
        · rename_i hkey
          obtain ⟨x, hx, rfl⟩ := val_map hm
          obtain ⟨y, hy, l, hl, hw⟩ := hH.obj _ _ hb
          rw [hx] at hy; injection hy with hy; subst hy
          have hck := keyC_sound (e := false) (w := w) 10000 hk hkey (by omega)
          have hget : (getObj x.blk).run P w = .ok (.map l.toArray clock) w := by simp only [getObj, Sem.run, hw]
          split at h
          · rename_i i v0 hf
            simp only [Option.map_eq_some_iff, Prod.mk.injEq] at h
            obtain ⟨es', hes, rfl, rfl⟩ := h
            unfold setEntry at hes
            split at hes
            · rename_i k0 v1 born hi
              split at hes
              · rename_i hbeq
                injection hes with hes; subst hes
                obtain ⟨r', hr, hrun⟩ := findKey_sound (w := w) hk hkey hl hf
                obtain ⟨hset, e0, he0, hk0, hv0, hborn⟩ := entryVals_set hl hi hk hv
                cases r' with
                | none => exact hr.elim
                | some jv =>
                  obtain ⟨j, vj⟩ := jv
                  obtain ⟨rfl, _⟩ := hr
                  obtain ⟨w', hw', hrel, hkeep⟩ := setObj_sound (P := P) (o' := .map (es.set i (k, v, born)) clock) (obj' := .map (l.set i ⟨k', v', born⟩).toArray clock) hH hb hx rfl rfl hw (by simp)
                    (fun w' hw' => ⟨_, hset, hw'⟩)
                  refine ⟨η, undef, w', rfl, .inr ⟨?_, rfl⟩, hrel, hkeep⟩
                  have hsame : Instr.sameBits 10000 e0.key k' = true := by
                    have e1 := beqK_eq _ _ _ hbeq
                    subst e1
                    rw [hk] at hk0; injection hk0 with hk0
                    rw [← hk0]
                    exact sameBits_of 8 _ _ _ hbeq hk 10000 (by omega)
                  have hmod : l.toArray.modify i (fun e => { e with key := k', val := v' }) = (l.set i ⟨k', v', born⟩).toArray := by
                    apply Array.ext_getElem?
                    intro n
                    simp only [Array.getElem?_modify, List.getElem?_toArray, List.getElem?_set]
                    split
                    · rename_i e; subst e
                      obtain ⟨hlt0, hl0⟩ := List.getElem?_eq_some_iff.1 he0
                      simp only [he0, hlt0, if_true, Option.map_some, Option.some.injEq]
                      rw [← hborn]
                    · rfl
                  simp only [Instr.mapUpdate, Sem.run_bind, und_run hu, Result.andThen_ok, hget, hck, hrun, List.getElem?_toArray, he0, Option.map_some, Option.getD_some, Instr.keyThatStays, hsame, if_true, Sem.run_pure, hmod, hw']
              · cases hes
            · cases hes
          · rename_i hf
            simp only [Option.some.injEq, Prod.mk.injEq] at h
            obtain ⟨rfl, rfl⟩ := h
            obtain ⟨r', hr, hrun⟩ := findKey_sound (w := w) hk hkey hl hf
            cases r' with
            | some jv => exact hr.elim
            | none =>
              have happ : entryVals η (es ++ [(k, v, clock)]) = some (l ++ [⟨k', v', clock⟩]) := entryVals_append (m := [⟨k', v', clock⟩]) hl (by simp [entryVals, hk, hv])
              obtain ⟨w', hw', hrel, hkeep⟩ := setObj_sound (P := P) (o' := .map (es ++ [(k, v, clock)]) (clock + 1)) (obj' := .map (l ++ [(⟨k', v', clock⟩ : MapEntry)]).toArray (clock + 1)) hH hb hx rfl rfl hw (by simp)
                (fun w' hw' => ⟨_, happ, hw'⟩)
              refine ⟨η, undef, w', rfl, .inr ⟨?_, rfl⟩, hrel, hkeep⟩
              simp only [Instr.mapUpdate, Sem.run_bind, und_run hu, Result.andThen_ok, hget, hck, hrun, List.push_toArray, hw', Sem.run_pure]
          · cases h
        · cases h
      · cases h
    · cases h
  · cases h

theorem deleteC_sound (hH : HRel η H w) {t : TypeId} {m k : CV} {m' k' : Value} {c : CV} {H' : Heap} (hm : m.val η = some m') (hk : k.val η = some k') (h : deleteC P t H m k = some (c, H')) (ts : Array TypeId) (hts : ts[0]? = some t) (ty : TypeId) (xs : Array Value)
    (h0 : xs[0]? = some m') (h1 : xs[1]? = some k') : Goes η H w ((do pure (Next.value (← Builtin.delete_ ts ty xs)) : Sem Next).run P w) c H' := by
  unfold deleteC at h
  split at h
  · rename_i kt et hu
    split at h
    · rename_i b
      split at h
      · rename_i es clock hb
        split at h
        · rename_i hkey
          obtain ⟨x, hx, rfl⟩ := val_map hm
          obtain ⟨y, hy, l, hl, hw⟩ := hH.obj _ _ hb
          rw [hx] at hy; injection hy with hy; subst hy
          have hck := keyC_sound (e := l.toArray.isEmpty) (w := w) 10000 hk hkey (by omega)
          have hget : (getObj x.blk).run P w = .ok (.map l.toArray clock) w := by simp only [getObj, Sem.run, hw]
          split at h
          · rename_i i v0 hf
            simp only [Option.some.injEq, Prod.mk.injEq] at h
            obtain ⟨rfl, rfl⟩ := h
            obtain ⟨r', hr, hrun⟩ := findKey_sound (w := w) hk hkey hl hf
            cases r' with
            | none => exact hr.elim
            | some jv =>
              obtain ⟨j, vj⟩ := jv
              obtain ⟨rfl, _⟩ := hr
              obtain ⟨w', hw', hrel, hkeep⟩ := setObj_sound (P := P) (o' := .map (es.eraseIdx i) clock) (obj' := .map (l.eraseIdx i).toArray clock) hH hb hx rfl rfl hw (by simp)
                (fun w' hw' => ⟨_, entryVals_erase i hl, hw'⟩)
              refine ⟨η, .tuple #[], w', rfl, .inl ?_, hrel, hkeep⟩
              have he : l.toArray.eraseIdxIfInBounds i = (l.eraseIdx i).toArray := by
                simp
              simp only [Builtin.delete_, hts, h0, h1, Sem.run_bind, und_run hu, Result.andThen_ok, hget, hck, hrun, he, hw', Sem.run_pure]
          · rename_i hf
            simp only [Option.some.injEq, Prod.mk.injEq] at h
            obtain ⟨rfl, rfl⟩ := h
            obtain ⟨r', hr, hrun⟩ := findKey_sound (w := w) hk hkey hl hf
            cases r' with
            | some jv => exact hr.elim
            | none =>
              have hlt := (Array.getElem?_eq_some_iff.1 hw)
              obtain ⟨hlt, hval⟩ := hlt
              have hsame : w.heap.setIfInBounds x.blk (.map l.toArray clock) = w.heap := by
                apply Array.ext_getElem?
                intro n
                rw [Array.getElem?_setIfInBounds]
                split
                · rename_i e; subst e; simp [hlt, hval]
                · rfl
              refine ⟨η, .tuple #[], w, rfl, .inl ?_, hH, Keeps.refl ..⟩
              simp only [Builtin.delete_, hts, h0, h1, Sem.run_bind, und_run hu, Result.andThen_ok, hget, hck, hrun, setObj, Sem.run, hw, hsame, Sem.run_pure]
          · cases h
        · cases h
      · cases h
    · cases h
  · cases h
end
end Go.K

namespace Go.K
set_option linter.unusedSimpArgs false
set_option linter.unusedVariables false

/-- The bytes of a list of cells. -/
def bytesC : List CV → Option (List UInt8)
  | [] => some []
  | .int .u8 (.ofNat n) :: cs => (bytesC cs).map (UInt8.ofNat n :: ·)
  | _ :: _ => none
def byteCells (s : ByteArray) : List CV := s.data.toList.map fun b => .int .u8 (.ofNat b.toNat)

def toBytesC (P : Program) (src dst : TypeId) (H : Heap) (x : CV) : Option (CV × Heap) :=
  match P.underlying src, P.underlying dst, x with
  | some .string, some (.slice e), .str s => match P.underlying e with
    | some (.int .u8) => match Nat.ble s.size 140737488355328 with
      | true => some (.slice H.next 0 s.size (.tail 1), H.newF (.cells (byteCells s) e (some (H.next, 0))))
      | false => none
    | _ => none
  | some (.slice e), some .string, x => match P.underlying e with
    | some (.int .u8) => match x with
      | .nilSlice => some (.str .empty, H)
      | .slice b off len cap => match len with
        | 0 => some (.str .empty, H)
        | m + 1 => match cap with
          | .tailE _ _ => none
          | _ => match H.get b with
            | some (.cells cs _ _) => (takeE (m + 1) (cs.drop off)).bind fun l => (bytesC l).map fun bs => (.str ⟨bs.toArray⟩, H)
            | _ => none
      | _ => none
    | _ => none
  | _, _, _ => none

section
variable {P : Program} {η : Eta} {H : Heap} {w : World}

theorem new_sound (hH : HRel η H w) {o : CObj} {obj : Obj} (hf : o.fam = none)
    (ho : ∀ (η' : Eta) (w' : World) (x : Loc), η.le η' → x.blk = w.heap.size → x.base = 0 → w'.heap[w.heap.size]? = some obj → ORel η' x w' o) :
    HRel (η.ins H.next ⟨w.heap.size, 0, 0⟩) (H.newF o) (pushed w obj) ∧ Keeps η H w (η.ins H.next ⟨w.heap.size, 0, 0⟩) (pushed w obj) := by
  have hn : η H.next = none := by
    cases e : η H.next with
    | none => rfl
    | some y => exact absurd (hH.dom _ _ e) (Nat.lt_irrefl _)
  refine ⟨hH.newF (fun k ok y hk hy r => r.mono η.le_refl (pushed_lt w obj r.lt)) (ho _ _ _ (Eta.le_ins hn) rfl rfl (pushed_size w obj)) ?_ (fun f p e => by rw [hf] at e; cases e), ?_⟩
  · intro k ok y hk hy e
    obtain ⟨z, hz, rz⟩ := hH.obj k ok hk
    rw [hy] at hz; injection hz with hz; subst hz
    have := rz.lt
    exact absurd e (by simp; omega)
  · refine ⟨rfl, rfl, rfl, by simp [pushed], fun k hk _ => pushed_lt w obj hk, Eta.le_ins hn, fun b x h1 h2 => ?_⟩
    by_cases e : b = H.next
    · subst e
      rw [Eta.ins_same] at h2; injection h2 with h2; subst h2
      exact ⟨Nat.le_refl _, .inl (Nat.le_refl _)⟩
    · rw [Eta.ins_ne _ _ e, h1] at h2; cases h2

theorem rangeC_sound (hH : HRel η H w) {t : TypeId} {x : CV} {x' : Value} {c : CV} {H' : Heap} (hx : x.val η = some x') (h : rangeC P t H x = some (c, H')) :
    Goes η H w ((do pure (Next.value (← Instr.range t x')) : Sem Next).run P w) c H' := by
  unfold rangeC at h
  split at h
  · rename_i s hu
    simp only [Option.some.injEq, Prod.mk.injEq] at h
    obtain ⟨rfl, rfl⟩ := h
    rw [val_str hx]
    obtain ⟨hr, hk⟩ := new_sound hH (o := .strIter s 0) (obj := .stringIter s 0) rfl (fun η' w' x _ hb h0 hw => ⟨h0, by rw [hb]; exact hw⟩)
    refine ⟨_, .pointer (some ⟨w.heap.size, 0, none⟩), _, by simp [CV.val, Eta.ins_same], .inl ?_, hr, hk⟩
    simp only [Instr.range, Sem.run_bind, und_run hu, Result.andThen_ok, Sem.run_pure, run_newObj]
    rfl
  · rename_i k e hu
    simp only [Option.some.injEq, Prod.mk.injEq] at h
    obtain ⟨rfl, rfl⟩ := h
    simp only [CV.val, Option.some.injEq] at hx; subst hx
    obtain ⟨hr, hk⟩ := new_sound hH (o := .mapIter none 0 [] 0) (obj := .mapIter none 0 #[] 0) rfl (fun η' w' x _ hb h0 hw => ⟨h0, none, rfl, by rw [hb]; exact hw⟩)
    refine ⟨_, .pointer (some ⟨w.heap.size, 0, none⟩), _, by simp [CV.val, Eta.ins_same], .inl ?_, hr, hk⟩
    simp only [Instr.range, Sem.run_bind, und_run hu, Result.andThen_ok, Sem.run_pure, run_newObj]
    rfl
  · rename_i k e m hu
    split at h
    · rename_i es clock hb
      simp only [Option.some.injEq, Prod.mk.injEq] at h
      obtain ⟨rfl, rfl⟩ := h
      obtain ⟨x, hxm, rfl⟩ := val_map hx
      obtain ⟨y, hy, l, hl, hw⟩ := hH.obj _ _ hb
      rw [hxm] at hy; injection hy with hy; subst hy
      obtain ⟨hr, hk⟩ := new_sound hH (o := .mapIter (some m) clock [] clock) (obj := .mapIter (some x.blk) clock #[] clock) rfl (fun η' w' z hle hb h0 hw => ⟨h0, some x.blk, ⟨x, hle _ _ hxm, rfl⟩, by rw [hb]; exact hw⟩)
      refine ⟨_, .pointer (some ⟨w.heap.size, 0, none⟩), _, by simp [CV.val, Eta.ins_same], .inl ?_, hr, hk⟩
      simp only [Instr.range, Sem.run_bind, und_run hu, Result.andThen_ok, Sem.run_pure, getObj, Sem.run, hw, run_newObj]
      rfl
    · cases h
  · cases h

theorem left_filter (seen : List Nat) : ∀ {es : List (CV × CV × Nat)} {l : List MapEntry}, entryVals η es = some l →
    entryVals η (leftC seen es) = some (l.filter fun e => !seen.toArray.contains e.born)
  | [], l, h => by simp [entryVals] at h; subst h; rfl
  | (k, v, b) :: es, l, h => by
    simp only [entryVals, Option.bind_eq_some_iff, Option.map_eq_some_iff] at h
    obtain ⟨k', hk, v', hv, l', hl, rfl⟩ := h
    have ih := left_filter seen hl
    unfold leftC
    have hc : seen.toArray.contains b = seen.contains b := by simp
    split
    · rename_i hb
      rw [List.filter_cons_of_neg (by simp only [hc, hb]; simp)]
      exact ih
    · rename_i hb
      rw [List.filter_cons_of_pos (by simp only [hc, hb]; simp)]
      simp [entryVals, hk, hv, ih]

theorem all_born (last : Nat) : ∀ {es : List (CV × CV × Nat)} {l : List MapEntry}, entryVals η es = some l → l.all (fun e => decide (e.born ≥ last)) = es.all (fun e => Nat.ble last e.2.2)
  | [], l, h => by simp [entryVals] at h; subst h; rfl
  | (k, v, b) :: es, l, h => by
    simp only [entryVals, Option.bind_eq_some_iff, Option.map_eq_some_iff] at h
    obtain ⟨k', hk, v', hv, l', hl, rfl⟩ := h
    simp only [List.all_cons, all_born last hl]
    congr 1
    rw [Bool.eq_iff_iff, Nat.ble_eq]
    simp

theorem nextC_sound (hH : HRel η H w) {x : CV} {x' : Value} {s : Bool} {ty : TypeId} {c : CV} {H' : Heap} (hx : x.val η = some x') (h : nextC H x s = some (c, H')) :
    Goes η H w ((do pure (Next.value (← Instr.next x' s ty)) : Sem Next).run P w) c H' := by
  unfold nextC at h
  split at h
  · rename_i r
    obtain ⟨x, hr, rfl⟩ := val_ptr hx
    split at h
    · rename_i str pos hb
      obtain ⟨y, hy, h0, hw⟩ := hH.obj _ _ hb
      rw [hr] at hy; injection hy with hy; subst hy
      split at h
      · rename_i hlt
        have hlt' : pos < str.size := by simpa [Nat.blt_eq] using hlt
        simp only [Option.some.injEq, Prod.mk.injEq] at h
        obtain ⟨rfl, rfl⟩ := h
        obtain ⟨w', hw', hrel, hk⟩ := setObj_sound (P := P) (o' := .strIter str (pos + (Utf8.decode str pos).2)) (obj' := .stringIter str (pos + (Utf8.decode str pos).2)) hH hb hr rfl rfl hw (by simp) (fun w' hw' => ⟨h0, hw'⟩)
        refine ⟨η, .tuple #[.bool true, goInt pos, .int .i32 (Utf8.decode str pos).1], w', ?_, .inl ?_, hrel, hk⟩
        · simp [CV.val, CV.vals]; rfl
        · simp only [Instr.next, h0, Nat.add_zero, Sem.run_bind, getObj, Sem.run, hw, Result.andThen_ok, hlt', if_true]
          simp only [Sem.run_bind, hw', Result.andThen_ok, Sem.run_pure]
      · rename_i hlt
        have hlt' : ¬ pos < str.size := fun e => by rw [← Nat.blt_eq, hlt] at e; cases e
        simp only [Option.some.injEq, Prod.mk.injEq] at h
        obtain ⟨rfl, rfl⟩ := h
        refine ⟨η, .tuple #[.bool false], w, rfl, .inl ?_, hH, Keeps.refl ..⟩
        simp only [Instr.next, h0, Nat.add_zero, Sem.run_bind, getObj, Sem.run, hw, Result.andThen_ok, hlt', if_false, Sem.run_pure]
    · rename_i a1 a2 a3 hb
      obtain ⟨y, hy, h0, m', hm', hw⟩ := hH.obj _ _ hb
      rw [hr] at hy; injection hy with hy; subst hy
      simp only at hm'; subst hm'
      simp only [Option.some.injEq, Prod.mk.injEq] at h
      obtain ⟨rfl, rfl⟩ := h
      refine ⟨η, .tuple #[.bool false], w, rfl, .inl ?_, hH, Keeps.refl ..⟩
      simp only [Instr.next, h0, Nat.add_zero, Sem.run_bind, getObj, Sem.run, hw, Result.andThen_ok, Sem.run_pure]
    · rename_i m since seen last hb
      obtain ⟨y, hy, h0, m', hm', hw⟩ := hH.obj _ _ hb
      rw [hr] at hy; injection hy with hy; subst hy
      obtain ⟨z, hz, rfl⟩ := hm'
      split at h
      · rename_i es clock hbm
        obtain ⟨z', hz', l, hl, hwm⟩ := hH.obj _ _ hbm
        rw [hz] at hz'; injection hz' with hz'; subst hz'
        split at h
        · cases h
        · rename_i hcond
          have hcond' : (!seen.toArray.isEmpty && !l.toArray.isEmpty && l.toArray.all (fun e => decide (e.born ≥ last))) = false := by
            rw [← hcond]
            have e1 : l.toArray.isEmpty = es.isEmpty := by
              have := entryVals_length hl
              cases l <;> cases es <;> simp_all
            rw [e1]
            have e2 : l.toArray.all (fun e => decide (e.born ≥ last)) = es.all (fun e => Nat.ble last e.2.2) := by
              rw [← all_born last hl]; simp
            rw [e2]
            simp
          have hleft := left_filter seen hl
          have hgetr : (getObj x.blk).run P w = .ok (.mapIter (some z.blk) since seen.toArray last) w := by simp only [getObj, Sem.run, hw]
          have hgetm : (getObj z.blk).run P w = .ok (.map l.toArray clock) w := by simp only [getObj, Sem.run, hwm]
          split at h
          · rename_i hnil
            rw [hnil] at hleft
            have hnone : l.filter (fun e => !seen.toArray.contains e.born) = [] := by simpa [entryVals] using hleft.symm
            simp only [Option.some.injEq, Prod.mk.injEq] at h
            obtain ⟨rfl, rfl⟩ := h
            refine ⟨η, .tuple #[.bool false], w, rfl, .inl ?_, hH, Keeps.refl ..⟩
            simp only [Instr.next, h0, Nat.add_zero, Sem.run_bind, hgetr, Result.andThen_ok, hgetm, hcond', Bool.false_eq_true, if_false, List.filter_toArray, hnone]
            simp [choose, Sem.run, Question.forced]
          · rename_i k v b hone
            split at h
            · rename_i hlt
              have hlt' : b < since := by simpa [Nat.blt_eq] using hlt
              rw [hone] at hleft
              simp only [entryVals, Option.bind_eq_some_iff, Option.map_eq_some_iff, Option.some.injEq] at hleft
              obtain ⟨k', hk', v', hv', l', rfl, hfil⟩ := hleft
              simp only [Option.some.injEq, Prod.mk.injEq] at h
              obtain ⟨rfl, rfl⟩ := h
              obtain ⟨w', hw', hrel, hkp⟩ := setObj_sound (P := P) (o' := .mapIter (some m) since (seen ++ [b]) clock) (obj' := .mapIter (some z.blk) since (seen ++ [b]).toArray clock) hH hb hr rfl rfl hw (by simp)
                (fun w' hw' => ⟨h0, some z.blk, ⟨z, hz, rfl⟩, hw'⟩)
              refine ⟨η, .tuple #[.bool true, k', v'], w', by simp [CV.val, CV.vals, hk', hv'], .inl ?_, hrel, hkp⟩
              have hnl : ¬ since ≤ b := by omega
              simp only [Instr.next, h0, Nat.add_zero, Sem.run_bind, hgetr, Result.andThen_ok, hgetm, hcond', Bool.false_eq_true, if_false, List.filter_toArray, ← hfil]
              simp [choose, Sem.run, Question.forced, hlt', hnl, List.filter_cons]
              have : (setObj x.blk (.mapIter (some z.blk) since (seen ++ [b]).toArray clock)).run P w = .ok () w' := hw'
              simp [this]
            · cases h
          · cases h
      · cases h
    · cases h
  · cases h

theorem find_born (stamp : Nat) : ∀ {es : List (CV × CV × Nat)} {l : List MapEntry} {k v : CV}, entryVals η es = some l → findBorn stamp es = some (k, v) →
    ∃ e, l.find? (fun e => e.born == stamp) = some e ∧ k.val η = some e.key ∧ v.val η = some e.val
  | [], l, k, v, h, hf => by simp [findBorn] at hf
  | (k0, v0, b) :: es, l, k, v, h, hf => by
    simp only [entryVals, Option.bind_eq_some_iff, Option.map_eq_some_iff] at h
    obtain ⟨k', hk, v', hv, l', hl, rfl⟩ := h
    unfold findBorn at hf
    split at hf
    · rename_i hb
      simp only [Option.some.injEq, Prod.mk.injEq] at hf
      obtain ⟨rfl, rfl⟩ := hf
      exact ⟨_, List.find?_cons_of_pos (by simpa using Nat.eq_of_beq_eq_true hb), hk, hv⟩
    · rename_i hb
      obtain ⟨e, he, h1, h2⟩ := find_born stamp hl hf
      exact ⟨e, by rw [List.find?_cons_of_neg (by simpa using Nat.ne_of_beq_eq_false hb)]; exact he, h1, h2⟩

theorem entryC_sound (hH : HRel η H w) {x : CV} {x' : Value} {c : CV} (hx : x.val η = some x') (h : entryC H x = some c) :
    ∃ v, c.val η = some v ∧ (Instr.entry x').run P w = .ok v w := by
  unfold entryC at h
  split at h
  · rename_i r
    obtain ⟨x, hr, rfl⟩ := val_ptr hx
    split at h
    · rename_i m since seen stepped hb
      obtain ⟨y, hy, h0, m', hm', hw⟩ := hH.obj _ _ hb
      rw [hr] at hy; injection hy with hy; subst hy
      obtain ⟨z, hz, rfl⟩ := hm'
      split at h
      · rename_i stamp es clock hlast hbm
        obtain ⟨z', hz', l, hl, hwm⟩ := hH.obj _ _ hbm
        rw [hz] at hz'; injection hz' with hz'; subst hz'
        split at h
        · rename_i hck
          have hck' := Nat.eq_of_beq_eq_true hck
          simp only [Option.map_eq_some_iff] at h
          obtain ⟨⟨k, v⟩, hf, rfl⟩ := h
          obtain ⟨e, he, hk, hv⟩ := find_born stamp hl hf
          refine ⟨.tuple #[e.key, e.val], by simp [CV.val, CV.vals, hk, hv], ?_⟩
          have hback : seen.toArray.back? = some stamp := by simpa using hlast
          have hne : (clock != stepped) = false := by simp [hck']
          simp only [Instr.entry, h0, Nat.add_zero, Sem.run_bind, getObj, Sem.run, hw, Result.andThen_ok, hback, hwm, hne, Bool.false_eq_true, if_false, List.find?_toArray, he, Sem.run_pure]
        · cases h
      · cases h
    · cases h
  · cases h
end
end Go.K
