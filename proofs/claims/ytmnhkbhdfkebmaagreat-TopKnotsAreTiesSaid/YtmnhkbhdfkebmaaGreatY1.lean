/- Facts about the program's types, and what its plain values look like. units: the names in relations, in order, each once. First: the loop that lists them. slices.Compact on texts. -/
import Derived.Test.YtmnhkbhdfkebmaaGreatProg
import Derived.KernelRfl
import Derived.Test.YtmnhkbhdfkebmaaGreatK13

set_option linter.unusedSimpArgs false
set_option linter.unusedVariables false

namespace Go.Y
open Go.K Go.Proofs
set_option linter.unusedSimpArgs false
set_option linter.unusedVariables false



theorem u3 : Tryz.prog.underlying 3 = some (.int .i64) := by kernel_rfl
theorem u4 : Tryz.prog.underlying 4 = some .bool := by kernel_rfl
theorem u5 : Tryz.prog.underlying 5 = some (.int .u8) := by kernel_rfl
theorem u9 : Tryz.prog.underlying 9 = some .string := by kernel_rfl
theorem u22 : Tryz.prog.underlying 22 = some (.slice 43) := by kernel_rfl
theorem u24 : Tryz.prog.underlying 25 = some (.slice 41) := by kernel_rfl
theorem u26 : Tryz.prog.underlying 34 = some (.slice 3) := by kernel_rfl
theorem u27 : Tryz.prog.underlying 28 = some (.int .i64) := by kernel_rfl
theorem u30 : Tryz.prog.underlying 27 = some (.slice 9) := by kernel_rfl
theorem u51 : Tryz.prog.underlying 49 = some (.map 9 4) := by kernel_rfl
theorem u52 : Tryz.prog.underlying 52 = some (.map 9 3) := by kernel_rfl
theorem u74 : Tryz.prog.underlying 57 = some (.slice 87) := by kernel_rfl
theorem u75 : Tryz.prog.underlying 58 = some (.slice 57) := by kernel_rfl
theorem u87 : Tryz.prog.underlying 118 = some (.slice 3) := by kernel_rfl

theorem s3 : szC Tryz.prog 3 = some 1 := by kernel_rfl
theorem s4 : szC Tryz.prog 4 = some 1 := by kernel_rfl
theorem s5 : szC Tryz.prog 5 = some 1 := by kernel_rfl
theorem s9 : szC Tryz.prog 9 = some 1 := by kernel_rfl
theorem s26 : szC Tryz.prog 34 = some 1 := by kernel_rfl
theorem s30 : szC Tryz.prog 27 = some 1 := by kernel_rfl
theorem s39 : szC Tryz.prog 43 = some 3 := by kernel_rfl
theorem s42 : szC Tryz.prog 41 = some 3 := by kernel_rfl
theorem s74 : szC Tryz.prog 57 = some 1 := by kernel_rfl
theorem s77 : szC Tryz.prog 60 = some 4 := by kernel_rfl
theorem s79 : szC Tryz.prog 87 = some 3 := by kernel_rfl
theorem s87 : szC Tryz.prog 118 = some 1 := by kernel_rfl

theorem g3 : isAggC Tryz.prog 3 = some false := by kernel_rfl
theorem g5 : isAggC Tryz.prog 5 = some false := by kernel_rfl
theorem g9 : isAggC Tryz.prog 9 = some false := by kernel_rfl
theorem g24 : isAggC Tryz.prog 25 = some false := by kernel_rfl
theorem g26 : isAggC Tryz.prog 34 = some false := by kernel_rfl
theorem g30 : isAggC Tryz.prog 27 = some false := by kernel_rfl
theorem g39 : isAggC Tryz.prog 43 = some true := by kernel_rfl
theorem g42 : isAggC Tryz.prog 41 = some true := by kernel_rfl
theorem g52 : isAggC Tryz.prog 52 = some false := by kernel_rfl
theorem g74 : isAggC Tryz.prog 57 = some false := by kernel_rfl
theorem g75 : isAggC Tryz.prog 58 = some false := by kernel_rfl
theorem g77 : isAggC Tryz.prog 60 = some true := by kernel_rfl
theorem g79 : isAggC Tryz.prog 87 = some true := by kernel_rfl
theorem g87 : isAggC Tryz.prog 118 = some false := by kernel_rfl

theorem z3 : zeroC Tryz.prog 3 = some [.int .i64 0] := by kernel_rfl
theorem z9 : zeroC Tryz.prog 9 = some [.str .empty] := by kernel_rfl
theorem z26 : zeroC Tryz.prog 34 = some [.nilSlice] := by kernel_rfl
theorem z42 : zeroC Tryz.prog 41 = some [.int .i64 0, .str .empty, .str .empty] := by kernel_rfl
theorem z74 : zeroC Tryz.prog 57 = some [.nilSlice] := by kernel_rfl
theorem z77 : zeroC Tryz.prog 60 = some [.nilSlice, .nilMap, .nilSlice, .nilSlice] := by kernel_rfl
theorem z79 : zeroC Tryz.prog 87 = some [.int .i64 0, .int .i64 0, .int .i64 0] := by kernel_rfl

theorem fa42_0 (b off : Nat) : fieldAddrC Tryz.prog 41 (.ptr b off) 0 = some (.ptr b off) := by kernel_rfl
theorem fa42_1 (b off : Nat) : fieldAddrC Tryz.prog 41 (.ptr b off) 1 = some (.ptr b (off + 1)) := by kernel_rfl
theorem fa42_2 (b off : Nat) : fieldAddrC Tryz.prog 41 (.ptr b off) 2 = some (.ptr b (off + 2)) := by kernel_rfl
theorem fa77_0 (b off : Nat) : fieldAddrC Tryz.prog 60 (.ptr b off) 0 = some (.ptr b off) := by kernel_rfl
theorem fa77_1 (b off : Nat) : fieldAddrC Tryz.prog 60 (.ptr b off) 1 = some (.ptr b (off + 1)) := by kernel_rfl
theorem fa77_2 (b off : Nat) : fieldAddrC Tryz.prog 60 (.ptr b off) 2 = some (.ptr b (off + 2)) := by kernel_rfl
theorem fa77_3 (b off : Nat) : fieldAddrC Tryz.prog 60 (.ptr b off) 3 = some (.ptr b (off + 3)) := by kernel_rfl
theorem fa79_0 (b off : Nat) : fieldAddrC Tryz.prog 87 (.ptr b off) 0 = some (.ptr b off) := by kernel_rfl
theorem fa79_1 (b off : Nat) : fieldAddrC Tryz.prog 87 (.ptr b off) 1 = some (.ptr b (off + 1)) := by kernel_rfl
theorem fa79_2 (b off : Nat) : fieldAddrC Tryz.prog 87 (.ptr b off) 2 = some (.ptr b (off + 2)) := by kernel_rfl

/-- A letter's name: the text of one letter. -/
def nm (n : Nat) : CV := .str ⟨#[UInt8.ofNat (65 + n)]⟩
/-- A description, and a relation, as values. -/
def seenCV (s : Nat × Nat × Nat) : CV := .agg [.int .u8 s.1, .int .u8 s.2.1, .int .u8 s.2.2]
def relCV (r : Nat × Nat × Nat) : CV := .agg [.int .i64 r.1, nm r.2.1, nm r.2.2]
/-- What a description describes: kind, upper, lower. -/
def relOf (s : Nat × Nat × Nat) : Nat × Nat × Nat := (1 + s.1 % 4, s.2.1 % 8, if s.2.2 % 8 = s.2.1 % 8 then (s.2.2 % 8 + 1) % 8 else s.2.2 % 8)
end Go.Y
namespace Go.Y
open Go.K Go.Proofs


theorem bs24 (x : Operand) (ρ : Operand → Option CV) : allocC Tryz.prog (.buildSlice 25 1 #[(0, x)]) ρ = (ρ x).bind fun v => if v.cells.length = 2 + 1 then some (.cells v.cells 41 none, fun b => .slice b 0 1 (.exact 1)) else none :=
  allocC_one u24 s42 z42 rfl (by omega) x ρ
theorem bs26 (x : Operand) (ρ : Operand → Option CV) : allocC Tryz.prog (.buildSlice 34 1 #[(0, x)]) ρ = (ρ x).bind fun v => if v.cells.length = 0 + 1 then some (.cells v.cells 3 none, fun b => .slice b 0 1 (.exact 1)) else none :=
  allocC_one u26 s3 z3 rfl (by omega) x ρ
theorem bs87 (x : Operand) (ρ : Operand → Option CV) : allocC Tryz.prog (.buildSlice 118 1 #[(0, x)]) ρ = (ρ x).bind fun v => if v.cells.length = 0 + 1 then some (.cells v.cells 3 none, fun b => .slice b 0 1 (.exact 1)) else none :=
  allocC_one u87 s3 z3 rfl (by omega) x ρ
theorem bs74 (x : Operand) (ρ : Operand → Option CV) : allocC Tryz.prog (.buildSlice 57 1 #[(0, x)]) ρ = (ρ x).bind fun v => if v.cells.length = 2 + 1 then some (.cells v.cells 87 none, fun b => .slice b 0 1 (.exact 1)) else none :=
  allocC_one u74 s79 z79 rfl (by omega) x ρ
theorem bs30 (x y : Operand) (ρ : Operand → Option CV) : allocC Tryz.prog (.buildSlice 27 2 #[(0, x), (1, y)]) ρ = (ρ x).bind fun v => (ρ y).bind fun u => if v.cells.length = 1 ∧ u.cells.length = 1 then some (.cells (v.cells ++ u.cells) 9 none, fun b => .slice b 0 2 (.exact 2)) else none :=
  allocC_two u30 s9 z9 x y ρ
theorem build42 (k : Int) (a b : Nat) : buildC Tryz.prog 41 [(0, .int .i64 k), (1, nm a), (2, nm b)] = some (.agg [.int .i64 k, nm a, nm b]) := by kernel_rfl
theorem build79 (i j k : Int) : buildC Tryz.prog 87 [(0, .int .i64 i), (1, .int .i64 j), (2, .int .i64 k)] = some (.agg [.int .i64 i, .int .i64 j, .int .i64 k]) := by kernel_rfl
theorem nm_cells (n : Nat) : (nm n).cells = [nm n] := rfl
theorem nm_single (n : Nat) : (nm n).single = true := rfl
theorem info_of {t sz by' : Nat} (h : (Tryz.prog.info? t).map (fun i => (i.size, i.bytes)) = some (sz, by')) : ∃ i : TypeInfo, Tryz.prog.info? t = some i ∧ i.size = sz ∧ i.bytes = by' := by
  cases e : Tryz.prog.info? t with
  | none => rw [e] at h; cases h
  | some i => rw [e] at h; simp only [Option.map_some, Option.some.injEq, Prod.mk.injEq] at h; exact ⟨i, rfl, h.1, h.2⟩
theorem i42 : ∃ i : TypeInfo, Tryz.prog.info? 41 = some i ∧ i.size = 3 ∧ i.bytes = 40 := info_of (by kernel_rfl)
theorem i9 : ∃ i : TypeInfo, Tryz.prog.info? 9 = some i ∧ i.size = 1 ∧ i.bytes = 16 := info_of (by kernel_rfl)
theorem i3 : ∃ i : TypeInfo, Tryz.prog.info? 3 = some i ∧ i.size = 1 ∧ i.bytes = 8 := info_of (by kernel_rfl)
theorem i79 : ∃ i : TypeInfo, Tryz.prog.info? 87 = some i ∧ i.size = 3 ∧ i.bytes = 24 := info_of (by kernel_rfl)
theorem i74 : ∃ i : TypeInfo, Tryz.prog.info? 57 = some i ∧ i.size = 1 ∧ i.bytes = 24 := info_of (by kernel_rfl)

theorem al3 (ρ : Operand → Option CV) : allocC Tryz.prog (.alloc 3) ρ = some (.cells [.int .i64 0] 3 none, fun b => .ptr b 0) := by simp only [allocC, z3, Option.map_some]
theorem al26 (ρ : Operand → Option CV) : allocC Tryz.prog (.alloc 34) ρ = some (.cells [.nilSlice] 34 none, fun b => .ptr b 0) := by simp only [allocC, z26, Option.map_some]
theorem al42 (ρ : Operand → Option CV) : allocC Tryz.prog (.alloc 41) ρ = some (.cells [.int .i64 0, .str .empty, .str .empty] 41 none, fun b => .ptr b 0) := by simp only [allocC, z42, Option.map_some]
theorem al79 (ρ : Operand → Option CV) : allocC Tryz.prog (.alloc 87) ρ = some (.cells [.int .i64 0, .int .i64 0, .int .i64 0] 87 none, fun b => .ptr b 0) := by simp only [allocC, z79, Option.map_some]

theorem nm_beq {x y : Nat} (hx : x < 100) (hy : y < 100) : bytesEq [UInt8.ofNat (65 + x)] [UInt8.ofNat (65 + y)] = decide (x = y) := by
  rw [bytesEq_eq]
  by_cases h : x = y
  · subst h; simp
  · have hne : ¬ ([UInt8.ofNat (65 + x)] = [UInt8.ofNat (65 + y)]) := by
      intro e
      injection e with e _
      have e2 : (UInt8.ofNat (65 + x)).toNat = (UInt8.ofNat (65 + y)).toNat := by rw [e]
      rw [UInt8.toNat_ofNat', UInt8.toNat_ofNat'] at e2
      omega
    rw [beq_eq_false_iff_ne.2 hne, decide_eq_false h]
theorem nm_neq {x y : Nat} (hx : x < 100) (hy : y < 100) : binC Tryz.prog .neq 9 (nm x) (nm y) = some (.bool (decide (x ≠ y))) := by
  simp only [nm, binC, strBin]
  rw [show bytesEq [UInt8.ofNat (65 + x)] [UInt8.ofNat (65 + y)] = decide (x = y) from nm_beq hx hy]
  by_cases h : x = y <;> simp [h]
theorem nm_eql {x y : Nat} (hx : x < 100) (hy : y < 100) : binC Tryz.prog .eql 9 (nm x) (nm y) = some (.bool (decide (x = y))) := by
  simp only [nm, binC, strBin]
  rw [show bytesEq [UInt8.ofNat (65 + x)] [UInt8.ofNat (65 + y)] = decide (x = y) from nm_beq hx hy]
end Go.Y

namespace Go.Y
open Go.K Go.Proofs
set_option linter.unusedSimpArgs false
set_option linter.unusedVariables false
set_option maxRecDepth 10000

variable {X : CallFn}

/-- A relation put into a new variable. -/
theorem store42 {G : Heap} {b k u w : Nat} {cs : List CV} (h : cs.length = 3) : storeC Tryz.prog 41 (G.put b (.cells cs 41 none)) (.ptr b 0) (.agg [.int .i64 k, nm u, nm w]) =
    some (.tuple [], (G.put b (.cells cs 41 none)).put b (.cells [.int .i64 k, nm u, nm w] 41 none)) := by
  have h2 : ([.int .i64 k, nm u, nm w] : List CV).all CV.single = true := rfl
  simp only [storeC, s42, CV.cells, List.length_cons, List.length_nil, writeC, Heap.get_put, if_true, h2, h, Bool.and_true]
  simp [splice, h, Nat.ble, Nat.beq, Heap.upd, CObj.fam, List.drop_of_length_le (Nat.le_of_eq h)]

/-- The names of relations. -/
def namesOf (rs : List (Nat × Nat × Nat)) : List Nat := rs.flatMap fun r => [r.2.1, r.2.2]

theorem units_body {env : Env} {H : Heap} {l v : CV} {rs : List (Nat × Nat × Nat)} {i f : Nat}
    (h3 : env.get 3 = some v) (h6 : env.get 6 = some l) (h7 : env.get 7 = some (.int .i64 rs.length)) (h8 : env.get 8 = some (.int .i64 i))
    (hl : Has H 3 41 l (rs.map relCV)) (hi : i < rs.length) (hr : rs.length ≤ 1000) (hv : Own H f 1 9 v ((namesOf (rs.take i)).map nm)) (hk : HOk H) :
    ∃ env' v' H' f', go Tryz.prog X 24 (sub (codeOf Tryz.f17) [true,true,false,true,false,false]) env H = some (.normal, env', H') ∧ env'.get 3 = some v' ∧ env'.get 6 = some l ∧ env'.get 7 = some (.int .i64 rs.length) ∧ env'.get 8 = some (.int .i64 (i + 1 : Nat)) ∧
      Own H' f' 1 9 v' ((namesOf (rs.take (i + 1))).map nm) ∧ HOk H' ∧ (v = .nilSlice → H.next ≤ f') ∧ (v ≠ .nilSlice → f' = f) ∧ ∀ n, n ≤ H.next → (v ≠ .nilSlice → n ≤ f) → Ext n H H' := by
  obtain ⟨b, off, cs, fam, hb, _, hidx, hget, hcells, hcell⟩ := hl.at (P := Tryz.prog) (t := 25) u24 s42 (i := i) (by simpa using hi)
  rw [List.getElem_map] at hcells
  have hcl : takeE 3 (cs.drop off) = some [.int .i64 rs[i].1, nm rs[i].2.1, nm rs[i].2.2] := hcells
  generalize hH2 : ((H.skip 1).put H.next (.cells [.int .i64 0, .str .empty, .str .empty] 41 none)).put H.next (.cells [.int .i64 rs[i].1, nm rs[i].2.1, nm rs[i].2.2] 41 none) = H2
  have hE2 : Ext H.next H H2 := by rw [← hH2]; exact (Ext.skip.trans (Ext.put (Nat.le_refl _))).trans (Ext.put (Nat.le_refl _))
  have hk2 : HOk H2 := by rw [← hH2]; exact Hok.put rfl (Hok.put rfl (Hok.skip 1 hk))
  have hn2 : H2.next = H.next + 1 := by rw [← hH2]; rfl
  have hg2 : H2.get H.next = some (.cells [.int .i64 rs[i].1, nm rs[i].2.1, nm rs[i].2.2] 41 none) := by rw [← hH2, Heap.get_put, if_pos rfl]
  generalize hH3 : (H2.skip 1).put H2.next (.cells [nm rs[i].2.1, nm rs[i].2.2] 9 none) = H3
  have hE3 : Ext H2.next H2 H3 := by rw [← hH3]; exact Ext.skip.trans (Ext.put (Nat.le_refl _))
  have hk3 : HOk H3 := by rw [← hH3]; exact Hok.put rfl (Hok.skip 1 hk2)
  have hn3 : H3.next = H.next + 2 := by rw [← hH3]; show H2.next + 1 = _; omega
  have hg3 : H3.get H2.next = some (.cells [nm rs[i].2.1, nm rs[i].2.2] 9 none) := by rw [← hH3, Heap.get_put, if_pos rfl]
  have hE : Ext H.next H H3 := hE2.trans (hE3.le (by omega))
  have hx : elemsC H3 1 (.slice H2.next 0 2 (.exact 2)) = some ([nm rs[i].2.1, nm rs[i].2.2].length, [nm rs[i].2.1, nm rs[i].2.2].flatMap CV.cells) := by
    simp [elemsC, hg3, takeE, nm_cells]
  obtain ⟨ti, hti, hts, htb⟩ := i9
  have hlen : ((namesOf (rs.take i)).map nm).length ≤ 2000 := by
    simp only [List.length_map, namesOf, List.length_flatMap, List.length_cons, List.length_nil]
    have : ∀ l : List (Nat × Nat × Nat), (l.map fun _ => 0 + 1 + 1).sum = 2 * l.length := by intro l; induction l with | nil => rfl | cons a l ih => simp [ih]; omega
    rw [this, List.length_take]; omega
  obtain ⟨v', H', f', happ, hf1, hf2, hown, hok, hnext, hkeep⟩ := (hv.ext hE hv.lt).append hk3 hx (by simp [nm_cells]) (by simp) u30 u30 (by intro k e; cases e) hti hts (by omega) z9 rfl rfl
    (by simp only [List.length_cons, List.length_nil, htb]; omega) (by simp only [List.length_cons, List.length_nil]; omega)
  have e1 : (i : Int) < (rs.length : Int) := by omega
  have hw : wrap .i64 ((i : Int) + 1) = ((i + 1 : Nat) : Int) := wrap64 (by omega) (by omega)
  have hnames : namesOf (rs.take (i + 1)) = namesOf (rs.take i) ++ [rs[i].2.1, rs[i].2.2] := by
    rw [List.take_add_one, List.getElem?_eq_getElem hi, Option.toList_some]; simp only [namesOf, List.flatMap_append, List.flatMap_cons, List.flatMap_nil, List.append_nil]
  rw [hnames, List.map_append]
  suffices h : ∃ env', go Tryz.prog X 24 (sub (codeOf Tryz.f17) [true,true,false,true,false,false]) env H = some (.normal, env', H') ∧ env'.get 3 = some v' ∧ env'.get 6 = some l ∧ env'.get 7 = some (.int .i64 rs.length) ∧ env'.get 8 = some (.int .i64 (i + 1 : Nat)) by
    obtain ⟨env', q1, q2, q3, q4, q5⟩ := h
    exact ⟨env', v', H', f', q1, q2, q3, q4, q5, hown, hok, fun e => by rw [hf1 e]; omega, hf2, fun n hn hf => (hE.le hn).trans (keep_ext hk3 (by omega) (by omega) hf hkeep)⟩
  simp only [codeOf, Tryz.f17, sub, go_seq, go_region, opsSeq_step, opsSeq_guard, guardStep_true, guardStep_false, guardVal, opsSeq_nil, afterStep_some, afterStep_none, stepC, kindOf, quietC, evC, Nat.reduceLT, Tr.get_set, if_true, if_false, Nat.reduceEqDiff, Option.map_some, Option.bind_some, List.getElem?_toArray, List.getElem?_cons_zero, List.getElem?_cons_succ, ofVal, decide_true, decide_false, BEq.rfl, andThen_normal, andThen_exit, andThen_ret, inBlock_normal, inBlock_ret, go_skip, go_exit, go_ret, loudStep, isCall, loudC, targetC, evs, evParts, mapO, List.nil_append, List.append_nil, List.cons_append, loadC, Heap.skip_get, Heap.get_put, Heap.skip_next, Heap.put_next, h3, h6, h7, h8, bin_lss, e1]
  rw [go_cond _ _ _ (v := true) (by simp only [evC, Tr.get_set, if_true])]
  simp only [go_seq, go_region, opsSeq_step, opsSeq_guard, guardStep_true, guardStep_false, guardVal, opsSeq_nil, afterStep_some, afterStep_none, stepC, kindOf, quietC, evC, Nat.reduceLT, Tr.get_set, if_true, if_false, Nat.reduceEqDiff, Option.map_some, Option.bind_some, List.getElem?_toArray, List.getElem?_cons_zero, List.getElem?_cons_succ, ofVal, decide_true, decide_false, BEq.rfl, andThen_normal, andThen_exit, andThen_ret, inBlock_normal, inBlock_ret, go_skip, go_exit, go_ret, loudStep, isCall, loudC, targetC, evs, evParts, mapO, List.nil_append, List.append_nil, List.cons_append, loadC, Heap.skip_get, Heap.get_put, Heap.skip_next, Heap.put_next, go_block, h3, h6, h7, h8, hidx, hget, hcl, s42, g42, al42, store42, List.length_cons, List.length_nil, Nat.reduceAdd, hH2, fa42_1, fa42_2, g9, hg2, bs30, nm_cells, and_self, hH3, happ, bin_add, hw]
  exact ⟨_, rfl, by simp only [Tr.get_set, Nat.reduceEqDiff, if_true, if_false], by simp only [Tr.get_set, Nat.reduceEqDiff, if_true, if_false, h6], by simp only [Tr.get_set, Nat.reduceEqDiff, if_true, if_false, h7], by simp only [Tr.get_set, if_true]⟩

theorem units_exit {env : Env} {H : Heap} {n : Nat} (h7 : env.get 7 = some (.int .i64 n)) (h8 : env.get 8 = some (.int .i64 n)) :
    go Tryz.prog X 24 (sub (codeOf Tryz.f17) [true,true,false,true,false,false]) env H = some (.exit 0, env.set 9 (.bool false), H) := by
  have e1 : ¬ ((n : Int) < (n : Int)) := by omega
  simp only [codeOf, Tryz.f17, sub, go_seq, go_region, opsSeq_step, opsSeq_guard, guardStep_true, guardStep_false, guardVal, opsSeq_nil, afterStep_some, afterStep_none, stepC, kindOf, quietC, evC, Nat.reduceLT, Tr.get_set, if_true, if_false, Nat.reduceEqDiff, Option.map_some, Option.bind_some, List.getElem?_toArray, List.getElem?_cons_zero, List.getElem?_cons_succ, ofVal, decide_true, decide_false, BEq.rfl, andThen_normal, andThen_exit, andThen_ret, inBlock_normal, inBlock_ret, go_skip, go_exit, go_ret, loudStep, isCall, loudC, targetC, evs, evParts, mapO, List.nil_append, List.append_nil, List.cons_append, loadC, Heap.skip_get, Heap.get_put, Heap.skip_next, Heap.put_next, h7, h8, bin_lss, e1]
  rw [go_cond _ _ _ (v := false) (by simp only [evC, Tr.get_set, if_true])]
  simp only [Bool.false_eq_true, if_false, go_exit, andThen_exit]

theorem units_loop {l : CV} {rs : List (Nat × Nat × Nat)} (hr : rs.length ≤ 1000) {n : Nat} (hln : ∀ b off len cap, l = .slice b off len cap → b < n) :
    ∀ (k i : Nat) (env : Env) (H : Heap) (v : CV) (f : Nat), i + k = rs.length → env.get 3 = some v → env.get 6 = some l → env.get 7 = some (.int .i64 rs.length) → env.get 8 = some (.int .i64 i) → Has H 3 41 l (rs.map relCV) → HOk H → n ≤ H.next →
      Own H f 1 9 v ((namesOf (rs.take i)).map nm) → (v ≠ .nilSlice → n ≤ f) →
    ∃ env' v' H' f', go Tryz.prog X 24 (sub (codeOf Tryz.f17) [true,true,false,true,false]) env H = some (.exit 0, env', H') ∧ env'.get 3 = some v' ∧ Own H' f' 1 9 v' ((namesOf rs).map nm) ∧ HOk H' ∧ (v' ≠ .nilSlice → n ≤ f') ∧ Ext n H H' := by
  have hcode : sub (codeOf Tryz.f17) [true,true,false,true,false] = .loop (sub (codeOf Tryz.f17) [true,true,false,true,false,false]) := rfl
  intro k
  induction k with
  | zero =>
    intro i env H v f hik h3 h6 h7 h8 hl hk hnx hv hf
    have : i = rs.length := by omega
    subst this
    rw [hcode, go_loop, units_exit h7 h8, andThen_exit]
    rw [List.take_length] at hv
    exact ⟨_, v, H, f, rfl, by simp only [Tr.get_set, Nat.reduceEqDiff, if_false, h3], hv, hk, hf, Ext.refl _ _⟩
  | succ k ih =>
    intro i env H v f hik h3 h6 h7 h8 hl hk hnx hv hf
    obtain ⟨e4, v4, H4, f4, g4, d3, d6, d7, d8, hown, hok4, hf1, hf2, hext⟩ := units_body (X := X) h3 h6 h7 h8 hl (by omega) hr hv hk
    have hx := hext n hnx hf
    obtain ⟨e6, v6, H6, f6, g6, p3, p4, p5, p6, p7⟩ := ih (i + 1) e4 H4 v4 f4 (by omega) d3 d6 d7 d8 (hl.ext hx hln) hok4 (Nat.le_trans hnx hx.1) hown (fun _ => by
      by_cases hvn : v = .nilSlice
      · have := hf1 hvn; omega
      · rw [hf2 hvn]; exact hf hvn)
    refine ⟨e6, v6, H6, f6, ?_, p3, p4, p5, p6, hx.trans p7⟩
    rw [hcode, go_loop, g4, andThen_normal, ← hcode]
    exact g6
end Go.Y

namespace Go.Y
open Go.K Go.Proofs
set_option linter.unusedSimpArgs false
set_option linter.unusedVariables false
set_option maxRecDepth 10000

variable {X : CallFn}

/-- One of each row of equal ones. -/
def dd : List Nat → List Nat
  | [] => []
  | [a] => [a]
  | a :: b :: t => if a = b then dd (b :: t) else a :: dd (b :: t)
theorem dd_snoc : ∀ (t : List Nat) (a b : Nat), dd (t ++ [a, b]) = if a = b then dd (t ++ [a]) else dd (t ++ [a]) ++ [b]
  | [], a, b => by simp [dd]; split <;> simp_all [dd]
  | [c], a, b => by
    simp only [List.cons_append, List.nil_append, dd]
    by_cases h : a = b <;> by_cases h' : c = a <;> simp [h, h']
    all_goals (first | rfl | (subst h; simp_all) | simp_all)
  | c :: d :: t, a, b => by
    have := dd_snoc (d :: t) a b
    simp only [List.cons_append, dd] at this ⊢
    rw [this]
    by_cases h : a = b <;> by_cases h' : c = d <;> simp [h, h']

theorem idx30 {b o len n : Nat} (h : n < len) : indexAddrC Tryz.prog 27 (.slice b o len (.tail 1)) (.int .i64 (n : Int)) = some (.ptr b (o + n)) := by
  show indexAddrC Tryz.prog 27 _ (.int .i64 (Int.ofNat n)) = _
  simp only [indexAddrC, u30, blt_t h, s9, Option.map_some, Nat.mul_one]

theorem splice_set {α : Type} (g : α → CV) (ms : List α) (k : Nat) (x : α) (h : k < ms.length) : splice (ms.map g) k [g x] = (ms.set k x).map g := by
  unfold splice
  rw [List.set_eq_take_append_cons_drop, if_pos h]
  simp [List.map_take, List.map_drop]

/-- A text put into a block. -/
theorem store9 {H : Heap} {b k x : Nat} {ms : List Nat} {fam : Option (Nat × Nat)} (hg : H.get b = some (.cells (ms.map nm) 9 fam)) (hk : k < ms.length) :
    storeC Tryz.prog 9 H (.ptr b k) (nm x) = some (.tuple [], H.upd b (.cells ((ms.set k x).map nm) 9 fam) k) := by
  have h1 : (nm x).cells = [nm x] := rfl
  have h2 : [nm x].all CV.single = true := rfl
  simp only [storeC, s9, h1, List.length_cons, List.length_nil, Nat.zero_add, beq_t rfl, writeC, hg, List.length_map, ble_t (show k + 1 ≤ ms.length by omega), h2, Bool.and_self, Option.map_some, splice_set nm ms k x hk]

/-- The block of a slice, after it was written to. -/
theorem upd_get {H : Heap} {b pos : Nat} {o : CObj} : (H.upd b o pos).get b = some o := by
  unfold Heap.upd
  split <;> rw [Heap.get_put, if_pos rfl]

theorem compact_r11 {env : Env} {H : Heap} {b k0 len j : Nat} {ms : List Nat} {fam : Option (Nat × Nat)} (h4 : env.get 4 = some (.slice b k0 len (.tail 1))) (h5 : env.get 5 = some (.int .i64 j))
    (hg : H.get b = some (.cells (ms.map nm) 9 fam)) (hj : j < len) (hj0 : 0 < j) (hlen : k0 + len = ms.length) (hm : len < 10000) (hms : ∀ x ∈ ms, x < 100) :
    ∃ env', go Tryz.prog X 61 (sub (codeOf Tryz.f36) [true,true,false,true,false,false,true,false,false,true,false,true,false,true,false,false,true,false,false,false]) env H = some (.normal, env', H.skip 10) ∧ (∀ t, t < 35 → env'.get t = env.get t) ∧ evC env' (.tmp 44) = some (.bool (decide (ms[k0 + j]! ≠ ms[k0 + j - 1]!))) := by
  have hw : wrap .i64 ((j : Int) - 1) = ((j - 1 : Nat) : Int) := by rw [wrap64 (by omega) (by omega)]; omega
  have c1 : (ms.map nm)[k0 + j]? = some (nm ms[k0 + j]!) := by
    rw [List.getElem?_map, List.getElem?_eq_getElem (by omega), Option.map_some, getElem!_pos _ _ (by omega)]
  have c2 : (ms.map nm)[k0 + (j - 1)]? = some (nm ms[k0 + j - 1]!) := by
    rw [List.getElem?_map, List.getElem?_eq_getElem (by omega), Option.map_some, getElem!_pos _ _ (by omega)]
    congr 3; omega
  have m1 : ms[k0 + j]! < 100 := by rw [getElem!_pos _ _ (by omega)]; exact hms _ (List.getElem_mem _)
  have m2 : ms[k0 + j - 1]! < 100 := by rw [getElem!_pos _ _ (by omega)]; exact hms _ (List.getElem_mem _)
  simp only [codeOf, Tryz.f36, sub]
  rw [go_planned [(0,0,[4],false),(1,0,[5],false),(2,0,[35,36],false),(3,0,[37],false),(4,0,[4],false),(5,0,[5],false),(6,0,[40],false),(7,0,[39,41],false),(8,0,[42],false),(9,0,[38,43],false)] rfl (by kernel_rfl)]
  simp only [drawStep_guard, guardDS_true, guardDS_false, guardVal, BEq.rfl, planRun_cons, planRun_nil, planStep, planEnd, List.getElem?_cons_zero, List.getElem?_cons_succ, drawStep_eq, kindOf, quietAt, quietC, evR, evC, memN, beq_dec, Nat.reduceEqDiff, decide_true, decide_false, setDS_some, loudDS_some, loudDS_none, allocDS_some, Nat.reduceLT, Tr.get_set, if_true, if_false, Option.map_some, Option.bind_some, List.length_cons, List.length_nil, sameAt, Nat.reduceAdd, Nat.reduceSub, ofVal, loadC, Heap.skip_get, Heap.get_put, loudStep, isCall, targetC, evs, evParts, mapO, List.cons_append, List.nil_append, List.append_nil, putAll, ne_eq, reduceCtorEq, not_false_eq_true, Int.reduceEq, eq_self, cbeq_int, cbeq_ptr, cbeq_str, cbeq_bool, cbeq_map, cbeq_slice, cbeq_nilSlice, Bool.and_self, Bool.and_true, Int.reduceNeg, List.append_eq, loudC, List.getElem?_toArray, h4, h5, idx30 hj, idx30 (show j - 1 < len by omega), g9, hg, c1, c2, bin_sub, hw, nm_neq m1 m2]
  refine ⟨_, rfl, fun t ht => ?_, by simp only [Tr.get_set, if_true]⟩
  simp only [Tr.get_set]
  simp only [show t ≠ 35 by omega, show t ≠ 36 by omega, show t ≠ 37 by omega, show t ≠ 38 by omega, show t ≠ 39 by omega, show t ≠ 40 by omega, show t ≠ 41 by omega, show t ≠ 42 by omega, show t ≠ 43 by omega, show t ≠ 44 by omega, if_false]

theorem compact_inner {env : Env} {H : Heap} {b k0 len j k n f p : Nat} {ms : List Nat} {v0 : CV} (h0 : env.get 0 = some (.slice b 0 ms.length (.tail 1))) (h3 : env.get 3 = some (.int .i64 k)) (h4 : env.get 4 = some (.slice b k0 len (.tail 1)))
    (h5 : env.get 5 = some (.int .i64 j)) (hg : H.get b = some (.cells (ms.map nm) 9 (some (f, p)))) (hj : j < len) (hj0 : 0 < j) (hlen : k0 + len = ms.length) (hm : ms.length < 10000) (hms : ∀ x ∈ ms, x < 100) (hk : k < k0 + j)
    (hok : HOk H) (hnf : n ≤ f) (hnb : n ≤ b) :
    ∃ env' H', go Tryz.prog X 61 (sub (codeOf Tryz.f36) [true,true,false,true,false,false,true,false,false,true,false,true,false,true,false,false]) env H = some (.normal, env', H') ∧ env'.get 0 = some (.slice b 0 ms.length (.tail 1)) ∧ env'.get 4 = some (.slice b k0 len (.tail 1)) ∧ env'.get 5 = some (.int .i64 (j + 1 : Nat)) ∧
      env'.get 3 = some (.int .i64 (if ms[k0 + j]! ≠ ms[k0 + j - 1]! then k + 1 else k : Nat)) ∧
      H'.get b = some (.cells ((if ms[k0 + j]! ≠ ms[k0 + j - 1]! then ms.set k ms[k0 + j]! else ms).map nm) 9 (some (f, p))) ∧ HOk H' ∧ Ext n H H' := by
  have hcode : sub (codeOf Tryz.f36) [true,true,false,true,false,false,true,false,false,true,false,true,false,true,false,false] = .seq (sub (codeOf Tryz.f36) [true,true,false,true,false,false,true,false,false,true,false,true,false,true,false,false,false]) (.seq (.block 3 (.seq (sub (codeOf Tryz.f36) [true,true,false,true,false,false,true,false,false,true,false,true,false,true,false,false,true,false,false,false]) (.cond (.tmp 44) (sub (codeOf Tryz.f36) [true,true,false,true,false,false,true,false,false,true,false,true,false,true,false,false,true,false,false,true,false]) .skip)))
    (sub (codeOf Tryz.f36) [true,true,false,true,false,false,true,false,false,true,false,true,false,true,false,false,true,true])) := rfl
  have e1 : (j : Int) < (len : Int) := by omega
  have hw : wrap .i64 ((j : Int) + 1) = ((j + 1 : Nat) : Int) := wrap64 (by omega) (by omega)
  have hwk : wrap .i64 ((k : Int) + 1) = ((k + 1 : Nat) : Int) := wrap64 (by omega) (by omega)
  have g9 : ∃ e, go Tryz.prog X 61 (sub (codeOf Tryz.f36) [true,true,false,true,false,false,true,false,false,true,false,true,false,true,false,false,false]) env H = some (.normal, e, H) ∧ ∀ t, t < 29 → e.get t = env.get t := by
    simp only [codeOf, Tryz.f36, sub, go_seq, go_region, opsSeq_step, opsSeq_guard, guardStep_true, guardStep_false, guardVal, opsSeq_nil, afterStep_some, afterStep_none, stepC, kindOf, quietC, evC, Nat.reduceLT, Tr.get_set, if_true, if_false, Nat.reduceEqDiff, Option.map_some, Option.bind_some, List.getElem?_toArray, List.getElem?_cons_zero, List.getElem?_cons_succ, ofVal, decide_true, decide_false, BEq.rfl, andThen_normal, andThen_exit, andThen_ret, inBlock_normal, inBlock_ret, go_skip, go_exit, go_ret, loudStep, isCall, loudC, targetC, evs, evParts, mapO, List.nil_append, List.append_nil, List.cons_append, loadC, Heap.skip_get, Heap.get_put, Heap.skip_next, Heap.put_next, h4, h5, lenC, u30, bin_lss, e1]
    rw [go_cond _ _ _ (v := true) (by simp only [evC, Tr.get_set, if_true])]
    simp only [go_skip, if_true]
    refine ⟨_, rfl, fun t ht => ?_⟩
    simp only [Tr.get_set, show t ≠ 29 by omega, show t ≠ 30 by omega, show t ≠ 31 by omega, show t ≠ 32 by omega, if_false]
  obtain ⟨ea, ga, qa⟩ := g9
  obtain ⟨eb, gb, qb, cb⟩ := compact_r11 (X := X) ((qa 4 (by omega)).trans h4) ((qa 5 (by omega)).trans h5) hg hj hj0 hlen (by omega) hms
  have qab : ∀ t, t < 29 → eb.get t = env.get t := fun t ht => (qb t (by omega)).trans (qa t ht)
  have b0 := (qab 0 (by omega)).trans h0
  have b3 := (qab 3 (by omega)).trans h3
  have b4 := (qab 4 (by omega)).trans h4
  have b5 := (qab 5 (by omega)).trans h5
  have g10 : ∀ (e : Env) (G : Heap), e.get 5 = some (.int .i64 j) → go Tryz.prog X 61 (sub (codeOf Tryz.f36) [true,true,false,true,false,false,true,false,false,true,false,true,false,true,false,false,true,true]) e G = some (.normal, ((e.set 33 (.int .i64 j)).set 34 (.int .i64 (j + 1 : Nat))).set 5 (.int .i64 (j + 1 : Nat)), G) := by
    intro e G he
    simp only [codeOf, Tryz.f36, sub, go_seq, go_region, opsSeq_step, opsSeq_guard, guardStep_true, guardStep_false, guardVal, opsSeq_nil, afterStep_some, afterStep_none, stepC, kindOf, quietC, evC, Nat.reduceLT, Tr.get_set, if_true, if_false, Nat.reduceEqDiff, Option.map_some, Option.bind_some, List.getElem?_toArray, List.getElem?_cons_zero, List.getElem?_cons_succ, ofVal, decide_true, decide_false, BEq.rfl, andThen_normal, andThen_exit, andThen_ret, inBlock_normal, inBlock_ret, go_skip, go_exit, go_ret, loudStep, isCall, loudC, targetC, evs, evParts, mapO, List.nil_append, List.append_nil, List.cons_append, loadC, Heap.skip_get, Heap.get_put, Heap.skip_next, Heap.put_next, he, bin_add, hw]
  have hgs : (H.skip 10).get b = some (.cells (ms.map nm) 9 (some (f, p))) := hg
  by_cases h : ms[k0 + j]! = ms[k0 + j - 1]!
  · have hn : ¬ (ms[k0 + j]! ≠ ms[k0 + j - 1]!) := fun hh => hh h
    simp only [hn, if_false]
    refine ⟨((eb.set 33 (.int .i64 j)).set 34 (.int .i64 (j + 1 : Nat))).set 5 (.int .i64 (j + 1 : Nat)), H.skip 10, ?_, ?_, ?_, ?_, ?_, hgs, Hok.skip 10 hok, Ext.skip⟩
    · rw [hcode, go_seq, ga, andThen_normal, go_seq, go_block, go_seq, gb, andThen_normal, go_cond _ _ _ cb]
      simp only [hn, decide_false, Bool.false_eq_true, if_false, go_skip, inBlock_normal, andThen_normal]
      exact g10 eb _ b5
    all_goals simp only [Tr.get_set, Nat.reduceEqDiff, if_true, if_false, b0, b3, b4]
  · have hn : ms[k0 + j]! ≠ ms[k0 + j - 1]! := h
    simp only [hn, ne_eq, not_false_eq_true, if_true]
    have c1 : (ms.map nm)[k0 + j]? = some (nm ms[k0 + j]!) := by
      rw [List.getElem?_map, List.getElem?_eq_getElem (by omega), Option.map_some, getElem!_pos _ _ (by omega)]
    have g12 : ∃ ec, go Tryz.prog X 61 (sub (codeOf Tryz.f36) [true,true,false,true,false,false,true,false,false,true,false,true,false,true,false,false,true,false,false,true,false]) eb (H.skip 10) = some (.normal, ec, (H.skip 10).upd b (.cells ((ms.set k ms[k0 + j]!).map nm) 9 (some (f, p))) k) ∧
        ec.get 3 = some (.int .i64 (k + 1 : Nat)) ∧ ∀ t, t < 29 → t ≠ 3 → ec.get t = eb.get t := by
      simp only [codeOf, Tryz.f36, sub, go_seq, go_region, opsSeq_step, opsSeq_guard, guardStep_true, guardStep_false, guardVal, opsSeq_nil, afterStep_some, afterStep_none, stepC, kindOf, quietC, evC, Nat.reduceLT, Tr.get_set, if_true, if_false, Nat.reduceEqDiff, Option.map_some, Option.bind_some, List.getElem?_toArray, List.getElem?_cons_zero, List.getElem?_cons_succ, ofVal, decide_true, decide_false, BEq.rfl, andThen_normal, andThen_exit, andThen_ret, inBlock_normal, inBlock_ret, go_skip, go_exit, go_ret, loudStep, isCall, loudC, targetC, evs, evParts, mapO, List.nil_append, List.append_nil, List.cons_append, loadC, Heap.skip_get, Heap.get_put, Heap.skip_next, Heap.put_next, b0, b3, b4, b5, idx30 hj, idx30 (show k < ms.length by omega), Go.Y.g9, hg, c1]
      rw [show 0 + k = k by omega, store9 hgs (by omega)]
      simp only [go_seq, go_region, opsSeq_step, opsSeq_guard, guardStep_true, guardStep_false, guardVal, opsSeq_nil, afterStep_some, afterStep_none, stepC, kindOf, quietC, evC, Nat.reduceLT, Tr.get_set, if_true, if_false, Nat.reduceEqDiff, Option.map_some, Option.bind_some, List.getElem?_toArray, List.getElem?_cons_zero, List.getElem?_cons_succ, ofVal, decide_true, decide_false, BEq.rfl, andThen_normal, andThen_exit, andThen_ret, inBlock_normal, inBlock_ret, go_skip, go_exit, go_ret, loudStep, isCall, loudC, targetC, evs, evParts, mapO, List.nil_append, List.append_nil, List.cons_append, loadC, Heap.skip_get, Heap.get_put, Heap.skip_next, Heap.put_next, b3, bin_add, hwk]
      refine ⟨_, rfl, by simp only [Tr.get_set, if_true], fun t ht h3 => ?_⟩
      simp only [Tr.get_set, show t ≠ 45 by omega, show t ≠ 46 by omega, show t ≠ 47 by omega, show t ≠ 48 by omega, show t ≠ 49 by omega, show t ≠ 50 by omega, show t ≠ 51 by omega, show t ≠ 52 by omega, show t ≠ 53 by omega, h3, if_false]
    obtain ⟨ec, gc, c3, qc⟩ := g12
    have c0 := (qc 0 (by omega) (by omega)).trans b0
    have c4 := (qc 4 (by omega) (by omega)).trans b4
    have c5 := (qc 5 (by omega) (by omega)).trans b5
    refine ⟨((ec.set 33 (.int .i64 j)).set 34 (.int .i64 (j + 1 : Nat))).set 5 (.int .i64 (j + 1 : Nat)), (H.skip 10).upd b (.cells ((ms.set k ms[k0 + j]!).map nm) 9 (some (f, p))) k, ?_, ?_, ?_, ?_, ?_, upd_get, Hok.upd hgs (Hok.skip 10 hok),
      Ext.skip.trans (Ext.upd (Hok.skip 10 hok) hgs hnb (fun g q e => by injection e with e; injection e with e1 e2; omega))⟩
    · rw [hcode, go_seq, ga, andThen_normal, go_seq, go_block, go_seq, gb, andThen_normal, go_cond _ _ _ cb]
      simp only [hn, ne_eq, not_false_eq_true, decide_true, if_true, gc, inBlock_normal, andThen_normal]
      exact g10 _ _ c5
    all_goals simp only [Tr.get_set, Nat.reduceEqDiff, if_true, if_false, c0, c3, c4]

theorem dd_step {ns : List Nat} {m : Nat} (h1 : 0 < m) (h2 : m < ns.length) : dd (ns.take (m + 1)) = if ns[m]! ≠ ns[m - 1]! then dd (ns.take m) ++ [ns[m]!] else dd (ns.take m) := by
  obtain ⟨q, rfl⟩ : ∃ q, m = q + 1 := ⟨m - 1, by omega⟩
  have t1 : ns.take (q + 1) = ns.take q ++ [ns[q]!] := by rw [List.take_add_one, List.getElem?_eq_getElem (by omega), Option.toList_some, getElem!_pos _ _ (by omega)]
  have t2 : ns.take (q + 1 + 1) = ns.take q ++ [ns[q]!, ns[q + 1]!] := by
    rw [List.take_add_one, List.getElem?_eq_getElem h2, Option.toList_some, t1, getElem!_pos ns (q + 1) h2, List.append_assoc]; rfl
  rw [t2, dd_snoc, t1, Nat.add_sub_cancel]
  by_cases h : ns[q]! = ns[q + 1]!
  · rw [if_pos h, if_neg (fun hh => hh h.symm)]
  · rw [if_neg h, if_pos (Ne.symm h)]
theorem dd_length_le : ∀ l : List Nat, (dd l).length ≤ l.length
  | [] => by simp [dd]
  | [a] => by simp [dd]
  | a :: b :: t => by
    have := dd_length_le (b :: t)
    simp only [dd]
    split
    · simp only [List.length_cons] at this ⊢; omega
    · simp only [List.length_cons] at this ⊢; omega
theorem dd_sub : ∀ (l : List Nat) (x : Nat), x ∈ dd l → x ∈ l
  | [], x, h => by simp [dd] at h
  | [a], x, h => by simpa [dd] using h
  | a :: b :: t, x, h => by
    simp only [dd] at h
    split at h
    · exact List.mem_cons_of_mem _ (dd_sub (b :: t) x h)
    · rcases List.mem_cons.1 h with rfl | h
      · exact List.mem_cons_self ..
      · exact List.mem_cons_of_mem _ (dd_sub (b :: t) x h)

theorem compact_iexit {env : Env} {H : Heap} {b k0 len : Nat} (h4 : env.get 4 = some (.slice b k0 len (.tail 1))) (h5 : env.get 5 = some (.int .i64 len)) :
    ∃ env', go Tryz.prog X 61 (sub (codeOf Tryz.f36) [true,true,false,true,false,false,true,false,false,true,false,true,false,true,false,false]) env H = some (.exit 2, env', H) ∧ ∀ t, t < 29 → env'.get t = env.get t := by
  have e1 : ¬ ((len : Int) < (len : Int)) := by omega
  simp only [codeOf, Tryz.f36, sub, go_seq, go_region, opsSeq_step, opsSeq_guard, guardStep_true, guardStep_false, guardVal, opsSeq_nil, afterStep_some, afterStep_none, stepC, kindOf, quietC, evC, Nat.reduceLT, Tr.get_set, if_true, if_false, Nat.reduceEqDiff, Option.map_some, Option.bind_some, List.getElem?_toArray, List.getElem?_cons_zero, List.getElem?_cons_succ, ofVal, decide_true, decide_false, BEq.rfl, andThen_normal, andThen_exit, andThen_ret, inBlock_normal, inBlock_ret, go_skip, go_exit, go_ret, loudStep, isCall, loudC, targetC, evs, evParts, mapO, List.nil_append, List.append_nil, List.cons_append, loadC, Heap.skip_get, Heap.get_put, Heap.skip_next, Heap.put_next, h4, h5, lenC, u30, bin_lss, e1]
  rw [go_cond _ _ _ (v := false) (by simp only [evC, Tr.get_set, if_true])]
  simp only [go_exit, Bool.false_eq_true, if_false, andThen_exit]
  refine ⟨_, rfl, fun t ht => ?_⟩
  simp only [Tr.get_set, show t ≠ 29 by omega, show t ≠ 30 by omega, show t ≠ 31 by omega, show t ≠ 32 by omega, if_false]

theorem compact_iloop {b k0 len n f p : Nat} {ns : List Nat} (hm : ns.length < 10000) (hns : ∀ x ∈ ns, x < 100) (hnf : n ≤ f) (hnb : n ≤ b) (hlen : k0 + len = ns.length) :
    ∀ (d j : Nat) (env : Env) (H : Heap) (ms : List Nat), j + d = len → 0 < j → ms.length = ns.length → ms.take (dd (ns.take (k0 + j))).length = dd (ns.take (k0 + j)) → (dd (ns.take (k0 + j))).length < k0 + j → (∀ i, k0 + j - 1 ≤ i → ms[i]! = ns[i]!) → (∀ x ∈ ms, x < 100) →
      env.get 0 = some (.slice b 0 ns.length (.tail 1)) → env.get 3 = some (.int .i64 (dd (ns.take (k0 + j))).length) → env.get 4 = some (.slice b k0 len (.tail 1)) → env.get 5 = some (.int .i64 j) →
      H.get b = some (.cells (ms.map nm) 9 (some (f, p))) → HOk H →
    ∃ (env' : Env) (H' : Heap) (ms' : List Nat), go Tryz.prog X 61 (sub (codeOf Tryz.f36) [true,true,false,true,false,false,true,false,false,true,false,true,false,true,false]) env H = some (.exit 2, env', H') ∧ env'.get 0 = some (.slice b 0 ns.length (.tail 1)) ∧ env'.get 3 = some (.int .i64 (dd ns).length) ∧
      H'.get b = some (.cells (ms'.map nm) 9 (some (f, p))) ∧ ms'.length = ns.length ∧ ms'.take (dd ns).length = dd ns ∧ (dd ns).length < ns.length ∧ HOk H' ∧ Ext n H H' := by
  have hcode : sub (codeOf Tryz.f36) [true,true,false,true,false,false,true,false,false,true,false,true,false,true,false] = .loop (sub (codeOf Tryz.f36) [true,true,false,true,false,false,true,false,false,true,false,true,false,true,false,false]) := rfl
  intro d
  induction d with
  | zero =>
    intro j env H ms hj hj0 hl htake hlt hrest hms h0 h3 h4 h5 hg hok
    have : j = len := by omega
    subst this
    obtain ⟨e, ge, qe⟩ := compact_iexit (X := X) (H := H) h4 h5
    rw [hlen, List.take_length] at htake hlt h3
    refine ⟨e, H, ms, ?_, (qe 0 (by omega)).trans h0, (qe 3 (by omega)).trans h3, hg, hl, htake, by omega, hok, Ext.refl _ _⟩
    rw [hcode, go_loop, ge, andThen_exit]
  | succ d ih =>
    intro j env H ms hj hj0 hl htake hlt hrest hms h0 h3 h4 h5 hg hok
    obtain ⟨e, H1, ge, a0, a4, a5, a3, ag, aok, ax⟩ := compact_inner (X := X) (v0 := .nilSlice) (by rw [hl]; exact h0) h3 h4 h5 hg (show j < len by omega) hj0 (by omega) (by omega) hms hlt hok hnf hnb
    have r1 : ms[k0 + j]! = ns[k0 + j]! := hrest _ (by omega)
    have r2 : ms[k0 + j - 1]! = ns[k0 + j - 1]! := hrest _ (by omega)
    rw [r1, r2] at a3 ag
    have hd := dd_step (ns := ns) (m := k0 + j) (by omega) (by omega)
    have hmx : ns[k0 + j]! < 100 := by rw [getElem!_pos _ _ (by omega)]; exact hns _ (List.getElem_mem _)
    rw [hl] at a0
    have hfin : ∃ ms1 : List Nat, H1.get b = some (.cells (ms1.map nm) 9 (some (f, p))) ∧ ms1.length = ns.length ∧ ms1.take (dd (ns.take (k0 + (j + 1)))).length = dd (ns.take (k0 + (j + 1))) ∧ (dd (ns.take (k0 + (j + 1)))).length < k0 + (j + 1) ∧
        (∀ i, k0 + (j + 1) - 1 ≤ i → ms1[i]! = ns[i]!) ∧ (∀ x ∈ ms1, x < 100) ∧ e.get 3 = some (.int .i64 (dd (ns.take (k0 + (j + 1)))).length) := by
      rw [← Nat.add_assoc, hd]
      by_cases h : ns[k0 + j]! ≠ ns[k0 + j - 1]!
      · rw [if_pos h] at a3 ag ⊢
        refine ⟨_, ag, by rw [List.length_set]; exact hl, ?_, ?_, ?_, ?_, ?_⟩
        · rw [List.length_append, List.length_singleton, List.take_add_one, List.getElem?_set_self (by omega), Option.toList_some, List.take_set_of_le (Nat.le_refl _), htake]
        · rw [List.length_append, List.length_singleton]; omega
        · intro i hi
          rw [← hrest i (by omega)]
          simp only [List.getElem!_eq_getElem?_getD, List.getElem?_set]
          rw [if_neg (by omega)]
        · intro x hx
          rcases List.mem_or_eq_of_mem_set hx with hx | rfl
          · exact hms x hx
          · exact hmx
        · rw [List.length_append, List.length_singleton]; exact a3
      · rw [if_neg h] at a3 ag ⊢
        exact ⟨_, ag, hl, htake, by omega, fun i hi => hrest i (by omega), hms, a3⟩
    obtain ⟨ms1, b1, b2, b3, b4, b5, b6, b7⟩ := hfin
    obtain ⟨e2, H2, ms2, g2, c0, c3, cg, cl, ct, clt, cok, cx⟩ := ih (j + 1) e H1 ms1 (by omega) (by omega) b2 b3 b4 b5 b6 a0 b7 a4 a5 b1 aok
    refine ⟨e2, H2, ms2, ?_, c0, c3, cg, cl, ct, clt, cok, ax.trans cx⟩
    rw [hcode, go_loop, ge, andThen_normal, ← hcode]
    exact g2

theorem slice_lo {H : Heap} {b len k e : Nat} {cs : List CV} {fam : Option (Nat × Nat)} (hg : H.get b = some (.cells cs e fam)) (hl : cs.length = len) (hk : k < len) :
    sliceC Tryz.prog H 27 (.slice b 0 len (.tail 1)) (some (.int .i64 (k : Int))) none none = some (.slice b k (len - k) (.tail 1)) := by
  show sliceC Tryz.prog H 27 _ (some (.int .i64 (Int.ofNat k))) none none = _
  simp only [sliceC, u30, s9, Option.bind_some, roomC, hg, hl, Nat.sub_zero, Nat.div_one, Nat.zero_add, cutIdxO, cutHi, cutIdx, ble_t (show k ≤ len by omega), recut, beq_t (show 1 = 1 from rfl), ble_t (Nat.le_refl len), Bool.and_self, Option.isSome_none, beq_f (show len ≠ k by omega), Nat.mul_one]
theorem slice_hi {H : Heap} {b len k e : Nat} {cs : List CV} {fam : Option (Nat × Nat)} (hg : H.get b = some (.cells cs e fam)) (hl : cs.length = len) (hk : k ≤ len) (hk0 : 0 < k) :
    sliceC Tryz.prog H 27 (.slice b 0 len (.tail 1)) none (some (.int .i64 (k : Int))) none = some (.slice b 0 k (.tail 1)) := by
  show sliceC Tryz.prog H 27 _ none (some (.int .i64 (Int.ofNat k))) none = _
  simp only [sliceC, u30, s9, Option.bind_some, roomC, hg, hl, Nat.sub_zero, Nat.div_one, Nat.zero_add, cutIdxO, cutHi, cutIdx, ble_t (show k ≤ len by omega), ble_t (Nat.zero_le k), recut, beq_t (show 1 = 1 from rfl), Bool.and_self, Option.isSome_none, beq_f (show k ≠ 0 by omega), Nat.mul_one]

theorem rep_length (n : Nat) (z : List CV) : (rep n z).length = n * z.length := by
  induction n with
  | zero => simp [rep]
  | succ n ih => simp [rep, ih, Nat.succ_mul]; omega
theorem rep_single (n : Nat) : (rep n [CV.str .empty]).all CV.single = true := by
  induction n with
  | zero => rfl
  | succ n ih => simp only [rep, List.cons_append, List.nil_append, List.all_cons, ih, Bool.and_true]; rfl
theorem clear_lo {H : Heap} {b len k : Nat} {cs : List CV} {fam : Option (Nat × Nat)} (hg : H.get b = some (.cells cs 9 fam)) (hl : cs.length = len) (hk : k < len) :
    clearC Tryz.prog 27 H (.slice b k (len - k) (.tail 1)) = some (.tuple [], H.upd b (.cells (splice cs k (rep (len - k) [.str .empty])) 9 fam) k) := by
  obtain ⟨d, hd⟩ : ∃ d, len - k = d + 1 := ⟨len - k - 1, by omega⟩
  simp only [clearC, u30, hd, z9, Option.bind_some, writeC, hg, rep_length, List.length_singleton, Nat.mul_one, hl, ble_t (show k + (d + 1) ≤ len by omega), rep_single, Bool.and_self, Option.map_some]

theorem compact_dup {b n f p k0 : Nat} {ns : List Nat} {env : Env} {H : Heap} (hm : ns.length < 10000) (hns : ∀ x ∈ ns, x < 100) (hnf : n ≤ f) (hnb : n ≤ b) (hk0 : 0 < k0) (hk : k0 < ns.length) (hd : dd (ns.take k0) = ns.take k0) (he : ns[k0]! = ns[k0 - 1]!)
    (h0 : env.get 0 = some (.slice b 0 ns.length (.tail 1))) (h3 : env.get 3 = some (.int .i64 k0)) (hg : H.get b = some (.cells (ns.map nm) 9 (some (f, p)))) (hok : HOk H) :
    ∃ (env' : Env) (H' : Heap) (cs : List CV), go Tryz.prog X 61 (sub (codeOf Tryz.f36) [true,true,false,true,false,false,true,false,false,true,false]) env H = some (.ret, env', H') ∧ env'.get 2 = some (.slice b 0 (dd ns).length (.tail 1)) ∧ H'.get b = some (.cells cs 9 (some (f, p))) ∧
      cs.take (dd ns).length = (dd ns).map nm ∧ (dd ns).length ≤ cs.length ∧ HOk H' ∧ Ext n H H' := by
  have hcode : sub (codeOf Tryz.f36) [true,true,false,true,false,false,true,false,false,true,false] = .seq (sub (codeOf Tryz.f36) [true,true,false,true,false,false,true,false,false,true,false,false]) (.seq (.seq (sub (codeOf Tryz.f36) [true,true,false,true,false,false,true,false,false,true,false,true,false,false]) (.block 2 (sub (codeOf Tryz.f36) [true,true,false,true,false,false,true,false,false,true,false,true,false,true,false])))
    (.seq (sub (codeOf Tryz.f36) [true,true,false,true,false,false,true,false,false,true,false,true,true,false]) (.seq (sub (codeOf Tryz.f36) [true,true,false,true,false,false,true,false,false,true,false,true,true,true,false]) .ret))) := rfl
  have g7 : ∃ e, go Tryz.prog X 61 (sub (codeOf Tryz.f36) [true,true,false,true,false,false,true,false,false,true,false,false]) env H = some (.normal, e, H) ∧ e.get 4 = some (.slice b k0 (ns.length - k0) (.tail 1)) ∧ ∀ t, t < 4 → e.get t = env.get t := by
    simp only [codeOf, Tryz.f36, sub, go_seq, go_region, opsSeq_step, opsSeq_guard, guardStep_true, guardStep_false, guardVal, opsSeq_nil, afterStep_some, afterStep_none, stepC, kindOf, quietC, evC, Nat.reduceLT, Tr.get_set, if_true, if_false, Nat.reduceEqDiff, Option.map_some, Option.bind_some, List.getElem?_toArray, List.getElem?_cons_zero, List.getElem?_cons_succ, ofVal, decide_true, decide_false, BEq.rfl, andThen_normal, andThen_exit, andThen_ret, inBlock_normal, inBlock_ret, go_skip, go_exit, go_ret, loudStep, isCall, loudC, targetC, evs, evParts, mapO, List.nil_append, List.append_nil, List.cons_append, loadC, Heap.skip_get, Heap.get_put, Heap.skip_next, Heap.put_next, h0, h3, evO, slice_lo hg (List.length_map _) hk]
    refine ⟨_, rfl, by simp only [Tr.get_set, if_true], fun t ht => ?_⟩
    simp only [Tr.get_set, show t ≠ 4 by omega, show t ≠ 26 by omega, show t ≠ 27 by omega, show t ≠ 28 by omega, if_false]
  obtain ⟨e7, g7, a4, q7⟩ := g7
  have g8 : go Tryz.prog X 61 (sub (codeOf Tryz.f36) [true,true,false,true,false,false,true,false,false,true,false,true,false,false]) e7 H = some (.normal, e7.set 5 (.int .i64 (1 : Nat)), H) := by
    simp only [codeOf, Tryz.f36, sub, go_seq, go_region, opsSeq_step, opsSeq_guard, guardStep_true, guardStep_false, guardVal, opsSeq_nil, afterStep_some, afterStep_none, stepC, kindOf, quietC, evC, Nat.reduceLT, Tr.get_set, if_true, if_false, Nat.reduceEqDiff, Option.map_some, Option.bind_some, List.getElem?_toArray, List.getElem?_cons_zero, List.getElem?_cons_succ, ofVal, decide_true, decide_false, BEq.rfl, andThen_normal, andThen_exit, andThen_ret, inBlock_normal, inBlock_ret, go_skip, go_exit, go_ret, loudStep, isCall, loudC, targetC, evs, evParts, mapO, List.nil_append, List.append_nil, List.cons_append, loadC, Heap.skip_get, Heap.get_put, Heap.skip_next, Heap.put_next]; rfl
  have hd1 : dd (ns.take (k0 + 1)) = ns.take k0 := by rw [dd_step hk0 hk, if_neg (fun h => h he), hd]
  have hl1 : (dd (ns.take (k0 + 1))).length = k0 := by rw [hd1, List.length_take]; omega
  obtain ⟨e, H1, ms, g, b0, b3, bg, bl, bt, blt, bok, bx⟩ := compact_iloop (X := X) hm hns hnf hnb (show k0 + (ns.length - k0) = ns.length by omega) (ns.length - k0 - 1) 1 (e7.set 5 (.int .i64 (1 : Nat))) H ns (by omega) (by omega) rfl
    (by rw [hl1, hd1]) (by rw [hl1]; omega) (fun _ _ => rfl) hns (by simp only [Tr.get_set, Nat.reduceEqDiff, if_false]; exact (q7 0 (by omega)).trans h0) (by rw [hl1]; simp only [Tr.get_set, Nat.reduceEqDiff, if_false]; exact (q7 3 (by omega)).trans h3)
    (by simp only [Tr.get_set, Nat.reduceEqDiff, if_false]; exact a4) (by simp only [Tr.get_set, if_true]) hg hok
  have bl' : (ms.map nm).length = ns.length := by rw [List.length_map, bl]
  have hpos : 0 < (dd ns).length := by
    have : ∀ l : List Nat, l ≠ [] → 0 < (dd l).length := by
      intro l
      induction l with
      | nil => intro h; exact absurd rfl h
      | cons a t ih =>
        intro _
        cases t with
        | nil => simp [dd]
        | cons c t =>
          simp only [dd]
          split
          · exact ih (by simp)
          · simp
    exact this ns (by intro h; rw [h] at hk; simp at hk)
  have g14 : ∃ e', go Tryz.prog X 61 (sub (codeOf Tryz.f36) [true,true,false,true,false,false,true,false,false,true,false,true,true,false]) e H1 = some (.normal, e', H1.upd b (.cells (splice (ms.map nm) (dd ns).length (rep (ns.length - (dd ns).length) [.str .empty])) 9 (some (f, p))) (dd ns).length) ∧ ∀ t, t < 4 → e'.get t = e.get t := by
    simp only [codeOf, Tryz.f36, sub, go_seq, go_region, opsSeq_step, opsSeq_guard, guardStep_true, guardStep_false, guardVal, opsSeq_nil, afterStep_some, afterStep_none, stepC, kindOf, quietC, evC, Nat.reduceLT, Tr.get_set, if_true, if_false, Nat.reduceEqDiff, Option.map_some, Option.bind_some, List.getElem?_toArray, List.getElem?_cons_zero, List.getElem?_cons_succ, ofVal, decide_true, decide_false, BEq.rfl, andThen_normal, andThen_exit, andThen_ret, inBlock_normal, inBlock_ret, go_skip, go_exit, go_ret, loudStep, isCall, loudC, targetC, evs, evParts, mapO, List.nil_append, List.append_nil, List.cons_append, loadC, Heap.skip_get, Heap.get_put, Heap.skip_next, Heap.put_next, b0, b3, evO, slice_lo bg bl' blt, clear_lo bg bl' blt]
    refine ⟨_, rfl, fun t ht => ?_⟩
    simp only [Tr.get_set, show t ≠ 54 by omega, show t ≠ 55 by omega, show t ≠ 56 by omega, if_false]
  obtain ⟨e14, g14, q14⟩ := g14
  have hsl : (splice (ms.map nm) (dd ns).length (rep (ns.length - (dd ns).length) [.str .empty])).length = ns.length := by
    simp only [splice, List.length_append, List.length_take, List.length_drop, rep_length, List.length_singleton, List.length_map, bl]; omega
  have hk2 : HOk (H1.upd b (.cells (splice (ms.map nm) (dd ns).length (rep (ns.length - (dd ns).length) [.str .empty])) 9 (some (f, p))) (dd ns).length) := Hok.upd bg bok
  have hx2 : Ext n H1 (H1.upd b (.cells (splice (ms.map nm) (dd ns).length (rep (ns.length - (dd ns).length) [.str .empty])) 9 (some (f, p))) (dd ns).length) :=
    Ext.upd bok bg hnb (fun g q e => by injection e with e; injection e with e1 e2; omega)
  have g15 : ∃ e', go Tryz.prog X 61 (sub (codeOf Tryz.f36) [true,true,false,true,false,false,true,false,false,true,false,true,true,true,false]) e14 (H1.upd b (.cells (splice (ms.map nm) (dd ns).length (rep (ns.length - (dd ns).length) [.str .empty])) 9 (some (f, p))) (dd ns).length) =
      some (.normal, e', H1.upd b (.cells (splice (ms.map nm) (dd ns).length (rep (ns.length - (dd ns).length) [.str .empty])) 9 (some (f, p))) (dd ns).length) ∧ e'.get 2 = some (.slice b 0 (dd ns).length (.tail 1)) := by
    simp only [codeOf, Tryz.f36, sub, go_seq, go_region, opsSeq_step, opsSeq_guard, guardStep_true, guardStep_false, guardVal, opsSeq_nil, afterStep_some, afterStep_none, stepC, kindOf, quietC, evC, Nat.reduceLT, Tr.get_set, if_true, if_false, Nat.reduceEqDiff, Option.map_some, Option.bind_some, List.getElem?_toArray, List.getElem?_cons_zero, List.getElem?_cons_succ, ofVal, decide_true, decide_false, BEq.rfl, andThen_normal, andThen_exit, andThen_ret, inBlock_normal, inBlock_ret, go_skip, go_exit, go_ret, loudStep, isCall, loudC, targetC, evs, evParts, mapO, List.nil_append, List.append_nil, List.cons_append, loadC, Heap.skip_get, Heap.get_put, Heap.skip_next, Heap.put_next, (q14 0 (by omega)).trans b0, (q14 3 (by omega)).trans b3, evO, slice_hi upd_get hsl (Nat.le_of_lt blt) hpos]
    exact ⟨_, rfl, by simp only [Tr.get_set, if_true]⟩
  obtain ⟨e15, g15, c2⟩ := g15
  refine ⟨e15, _, _, ?_, c2, upd_get, ?_, by omega, hk2, bx.trans hx2⟩
  · rw [hcode, go_seq, g7, andThen_normal, go_seq, go_seq, g8, andThen_normal, go_block, g, inBlock_exit, if_pos rfl, andThen_normal, go_seq, g14, andThen_normal, go_seq, g15, andThen_normal, go_ret]
  · unfold splice
    rw [List.append_assoc, List.take_append_of_le_length (by rw [List.length_take]; omega), List.take_take, Nat.min_self, ← List.map_take, bt]

theorem compact_r6 {env : Env} {H : Heap} {b k : Nat} {ns : List Nat} {fam : Option (Nat × Nat)} (h0 : env.get 0 = some (.slice b 0 ns.length (.tail 1))) (h3 : env.get 3 = some (.int .i64 k))
    (hg : H.get b = some (.cells (ns.map nm) 9 fam)) (hj : k < ns.length) (hj0 : 0 < k) (hm : ns.length < 10000) (hms : ∀ x ∈ ns, x < 100) :
    ∃ env', go Tryz.prog X 61 (sub (codeOf Tryz.f36) [true,true,false,true,false,false,true,false,false,false]) env H = some (.normal, env', H.skip 10) ∧ (∀ t, t < 16 → env'.get t = env.get t) ∧ evC env' (.tmp 25) = some (.bool (decide (ns[k]! = ns[k - 1]!))) := by
  have hw : wrap .i64 ((k : Int) - 1) = ((k - 1 : Nat) : Int) := by rw [wrap64 (by omega) (by omega)]; omega
  have c1 : (ns.map nm)[0 + k]? = some (nm ns[k]!) := by
    rw [Nat.zero_add, List.getElem?_map, List.getElem?_eq_getElem (by omega), Option.map_some, getElem!_pos _ _ (by omega)]
  have c2 : (ns.map nm)[0 + (k - 1)]? = some (nm ns[k - 1]!) := by
    rw [Nat.zero_add, List.getElem?_map, List.getElem?_eq_getElem (by omega), Option.map_some, getElem!_pos _ _ (by omega)]
  have m1 : ns[k]! < 100 := by rw [getElem!_pos _ _ (by omega)]; exact hms _ (List.getElem_mem _)
  have m2 : ns[k - 1]! < 100 := by rw [getElem!_pos _ _ (by omega)]; exact hms _ (List.getElem_mem _)
  simp only [codeOf, Tryz.f36, sub]
  rw [go_planned [(0,0,[0],false),(1,0,[3],false),(2,0,[16,17],false),(3,0,[18],false),(4,0,[0],false),(5,0,[3],false),(6,0,[21],false),(7,0,[20,22],false),(8,0,[23],false),(9,0,[19,24],false)] rfl (by kernel_rfl)]
  simp only [drawStep_guard, guardDS_true, guardDS_false, guardVal, BEq.rfl, planRun_cons, planRun_nil, planStep, planEnd, List.getElem?_cons_zero, List.getElem?_cons_succ, drawStep_eq, kindOf, quietAt, quietC, evR, evC, memN, beq_dec, Nat.reduceEqDiff, decide_true, decide_false, setDS_some, loudDS_some, loudDS_none, allocDS_some, Nat.reduceLT, Tr.get_set, if_true, if_false, Option.map_some, Option.bind_some, List.length_cons, List.length_nil, sameAt, Nat.reduceAdd, Nat.reduceSub, ofVal, loadC, Heap.skip_get, Heap.get_put, loudStep, isCall, targetC, evs, evParts, mapO, List.cons_append, List.nil_append, List.append_nil, putAll, ne_eq, reduceCtorEq, not_false_eq_true, Int.reduceEq, eq_self, cbeq_int, cbeq_ptr, cbeq_str, cbeq_bool, cbeq_map, cbeq_slice, cbeq_nilSlice, Bool.and_self, Bool.and_true, Int.reduceNeg, List.append_eq, loudC, List.getElem?_toArray, h0, h3, idx30 hj, idx30 (show k - 1 < ns.length by omega), g9, hg, c1, c2, bin_sub, hw, nm_eql m1 m2]
  refine ⟨_, rfl, fun t ht => ?_, by simp only [Tr.get_set, if_true]⟩
  simp only [Tr.get_set]
  simp only [show t ≠ 16 by omega, show t ≠ 17 by omega, show t ≠ 18 by omega, show t ≠ 19 by omega, show t ≠ 20 by omega, show t ≠ 21 by omega, show t ≠ 22 by omega, show t ≠ 23 by omega, show t ≠ 24 by omega, show t ≠ 25 by omega, if_false]

theorem compact_loop {b n f p : Nat} {ns : List Nat} (hm : ns.length < 10000) (hns : ∀ x ∈ ns, x < 100) (hnf : n ≤ f) (hnb : n ≤ b) :
    ∀ (d k : Nat) (env : Env) (H : Heap), k + d = ns.length → 0 < k → dd (ns.take k) = ns.take k → env.get 0 = some (.slice b 0 ns.length (.tail 1)) → env.get 3 = some (.int .i64 k) → H.get b = some (.cells (ns.map nm) 9 (some (f, p))) → HOk H →
    ∃ (e : CE) (env' : Env) (H' : Heap) (cs : List CV), go Tryz.prog X 61 (sub (codeOf Tryz.f36) [true,true,false,true,false]) env H = some (e, env', H') ∧ H'.get b = some (.cells cs 9 (some (f, p))) ∧ cs.take (dd ns).length = (dd ns).map nm ∧ (dd ns).length ≤ cs.length ∧ HOk H' ∧ Ext n H H' ∧
      ((e = .exit 0 ∧ dd ns = ns ∧ env'.get 0 = some (.slice b 0 ns.length (.tail 1))) ∨ (e = .ret ∧ env'.get 2 = some (.slice b 0 (dd ns).length (.tail 1)))) := by
  have hcode : sub (codeOf Tryz.f36) [true,true,false,true,false] = .loop (.seq (sub (codeOf Tryz.f36) [true,true,false,true,false,false,false]) (.seq (.block 1 (.seq (sub (codeOf Tryz.f36) [true,true,false,true,false,false,true,false,false,false]) (.cond (.tmp 25) (sub (codeOf Tryz.f36) [true,true,false,true,false,false,true,false,false,true,false]) .skip))) (sub (codeOf Tryz.f36) [true,true,false,true,false,false,true,true]))) := rfl
  have g4 : ∀ (k : Nat) (env : Env) (H : Heap), env.get 0 = some (.slice b 0 ns.length (.tail 1)) → env.get 3 = some (.int .i64 k) → ∃ e, go Tryz.prog X 61 (sub (codeOf Tryz.f36) [true,true,false,true,false,false,false]) env H = (if k < ns.length then some (.normal, e, H) else some (.exit 0, e, H)) ∧ ∀ t, t < 10 → e.get t = env.get t := by
    intro k env H h0 h3
    by_cases h : k < ns.length
    · have e1 : (k : Int) < (ns.length : Int) := by omega
      simp only [codeOf, Tryz.f36, sub, go_seq, go_region, opsSeq_step, opsSeq_guard, guardStep_true, guardStep_false, guardVal, opsSeq_nil, afterStep_some, afterStep_none, stepC, kindOf, quietC, evC, Nat.reduceLT, Tr.get_set, if_true, if_false, Nat.reduceEqDiff, Option.map_some, Option.bind_some, List.getElem?_toArray, List.getElem?_cons_zero, List.getElem?_cons_succ, ofVal, decide_true, decide_false, BEq.rfl, andThen_normal, andThen_exit, andThen_ret, inBlock_normal, inBlock_ret, go_skip, go_exit, go_ret, loudStep, isCall, loudC, targetC, evs, evParts, mapO, List.nil_append, List.append_nil, List.cons_append, loadC, Heap.skip_get, Heap.get_put, Heap.skip_next, Heap.put_next, h0, h3, lenC, u30, bin_lss, e1]
      rw [go_cond _ _ _ (v := true) (by simp only [evC, Tr.get_set, if_true])]
      simp only [go_skip, if_true, if_pos h]
      refine ⟨_, rfl, fun t ht => ?_⟩
      simp only [Tr.get_set, show t ≠ 10 by omega, show t ≠ 11 by omega, show t ≠ 12 by omega, show t ≠ 13 by omega, if_false]
    · have e1 : ¬ ((k : Int) < (ns.length : Int)) := by omega
      simp only [codeOf, Tryz.f36, sub, go_seq, go_region, opsSeq_step, opsSeq_guard, guardStep_true, guardStep_false, guardVal, opsSeq_nil, afterStep_some, afterStep_none, stepC, kindOf, quietC, evC, Nat.reduceLT, Tr.get_set, if_true, if_false, Nat.reduceEqDiff, Option.map_some, Option.bind_some, List.getElem?_toArray, List.getElem?_cons_zero, List.getElem?_cons_succ, ofVal, decide_true, decide_false, BEq.rfl, andThen_normal, andThen_exit, andThen_ret, inBlock_normal, inBlock_ret, go_skip, go_exit, go_ret, loudStep, isCall, loudC, targetC, evs, evParts, mapO, List.nil_append, List.append_nil, List.cons_append, loadC, Heap.skip_get, Heap.get_put, Heap.skip_next, Heap.put_next, h0, h3, lenC, u30, bin_lss, e1]
      rw [go_cond _ _ _ (v := false) (by simp only [evC, Tr.get_set, if_true])]
      simp only [go_exit, Bool.false_eq_true, if_false, if_neg h]
      refine ⟨_, rfl, fun t ht => ?_⟩
      simp only [Tr.get_set, show t ≠ 10 by omega, show t ≠ 11 by omega, show t ≠ 12 by omega, show t ≠ 13 by omega, if_false]
  intro d
  induction d with
  | zero =>
    intro k env H hk hk0 hd h0 h3 hg hok
    have : k = ns.length := by omega
    subst this
    obtain ⟨e, ge, qe⟩ := g4 _ env H h0 h3
    rw [if_neg (Nat.lt_irrefl _)] at ge
    rw [List.take_length] at hd
    refine ⟨.exit 0, e, H, ns.map nm, ?_, hg, by rw [hd, List.take_of_length_le (by simp)], by rw [hd]; simp, hok, Ext.refl _ _, .inl ⟨rfl, hd, (qe 0 (by omega)).trans h0⟩⟩
    rw [hcode, go_loop, go_seq, ge, andThen_exit, andThen_exit]
  | succ d ih =>
    intro k env H hk hk0 hd h0 h3 hg hok
    have hlt : k < ns.length := by omega
    obtain ⟨e, ge, qe⟩ := g4 k env H h0 h3
    rw [if_pos hlt] at ge
    obtain ⟨e6, g6, q6, c6⟩ := compact_r6 (X := X) ((qe 0 (by omega)).trans h0) ((qe 3 (by omega)).trans h3) hg hlt hk0 hm hns
    have a0 : e6.get 0 = _ := (q6 0 (by omega)).trans ((qe 0 (by omega)).trans h0)
    have a3 : e6.get 3 = _ := (q6 3 (by omega)).trans ((qe 3 (by omega)).trans h3)
    have hgs : (H.skip 10).get b = some (.cells (ns.map nm) 9 (some (f, p))) := hg
    by_cases h : ns[k]! = ns[k - 1]!
    · obtain ⟨e7, H7, cs, g7, b2, bg, bt, bl, bok, bx⟩ := compact_dup (X := X) hm hns hnf hnb hk0 hlt hd h a0 a3 hgs (Hok.skip 10 hok)
      refine ⟨.ret, e7, H7, cs, ?_, bg, bt, bl, bok, Ext.skip.trans bx, .inr ⟨rfl, b2⟩⟩
      rw [hcode, go_loop, go_seq, ge, andThen_normal, go_seq, go_block, go_seq, g6, andThen_normal, go_cond _ _ _ c6]
      simp only [h, decide_true, if_true, g7, inBlock_ret, andThen_ret]
    · have hw : wrap .i64 ((k : Int) + 1) = ((k + 1 : Nat) : Int) := wrap64 (by omega) (by omega)
      have g5 : go Tryz.prog X 61 (sub (codeOf Tryz.f36) [true,true,false,true,false,false,true,true]) e6 (H.skip 10) = some (.normal, ((e6.set 14 (.int .i64 k)).set 15 (.int .i64 (k + 1 : Nat))).set 3 (.int .i64 (k + 1 : Nat)), H.skip 10) := by
        simp only [codeOf, Tryz.f36, sub, go_seq, go_region, opsSeq_step, opsSeq_guard, guardStep_true, guardStep_false, guardVal, opsSeq_nil, afterStep_some, afterStep_none, stepC, kindOf, quietC, evC, Nat.reduceLT, Tr.get_set, if_true, if_false, Nat.reduceEqDiff, Option.map_some, Option.bind_some, List.getElem?_toArray, List.getElem?_cons_zero, List.getElem?_cons_succ, ofVal, decide_true, decide_false, BEq.rfl, andThen_normal, andThen_exit, andThen_ret, inBlock_normal, inBlock_ret, go_skip, go_exit, go_ret, loudStep, isCall, loudC, targetC, evs, evParts, mapO, List.nil_append, List.append_nil, List.cons_append, loadC, Heap.skip_get, Heap.get_put, Heap.skip_next, Heap.put_next, a3, bin_add, hw]
      have hd2 : dd (ns.take (k + 1)) = ns.take (k + 1) := by
        rw [dd_step hk0 hlt, if_pos h, hd, List.take_add_one (l := ns) (i := k), List.getElem?_eq_getElem hlt, Option.toList_some, getElem!_pos ns k hlt]
      obtain ⟨ce, e8, H8, cs, g8, b1, b2, b3, b4, b5, b6⟩ := ih (k + 1) (((e6.set 14 (.int .i64 k)).set 15 (.int .i64 (k + 1 : Nat))).set 3 (.int .i64 (k + 1 : Nat))) (H.skip 10) (by omega) (by omega) hd2
        (by simp only [Tr.get_set, Nat.reduceEqDiff, if_false]; exact a0) (by simp only [Tr.get_set, if_true]) hgs (Hok.skip 10 hok)
      refine ⟨ce, e8, H8, cs, ?_, b1, b2, b3, b4, Ext.skip.trans b5, b6⟩
      rw [hcode, go_loop, ← hcode, go_seq, ge, andThen_normal, go_seq, go_block, go_seq, g6, andThen_normal, go_cond _ _ _ c6]
      simp only [h, decide_false, Bool.false_eq_true, if_false, go_skip, inBlock_normal, andThen_normal, g5]
      exact g8

theorem nm_flat : ∀ l : List Nat, (l.map nm).flatMap CV.cells = l.map nm
  | [] => rfl
  | a :: t => by rw [List.map_cons, List.flatMap_cons, nm_flat t]; rfl

/-- slices.Compact: one of each row of equal texts, in the same block. -/
theorem compact_ok (hX : ∀ a H, X 36 a H = none) {H : Heap} {f n : Nat} {v : CV} {ns : List Nat} (hm : ns.length < 10000) (hns : ∀ x ∈ ns, x < 100) (hv : Own H f 1 9 v (ns.map nm)) (hok : HOk H) (hn : n ≤ H.next) (hf : v ≠ .nilSlice → n ≤ f) :
    ∃ v' H', calls Tryz.prog X 36 [v] H = some (v', H') ∧ Has H' 1 9 v' ((dd ns).map nm) ∧ HOk H' ∧ Ext n H H' := by
  have hcode : codeOf Tryz.f36 = .seq (sub (codeOf Tryz.f36) [false]) (.seq (.seq (sub (codeOf Tryz.f36) [true,false,false]) (.cond (.tmp 8) (sub (codeOf Tryz.f36) [true,false,true,false]) .skip)) (.seq (.seq (sub (codeOf Tryz.f36) [true,true,false,false]) (.block 0 (sub (codeOf Tryz.f36) [true,true,false,true,false]))) (.seq (sub (codeOf Tryz.f36) [true,true,true,false]) .ret))) := rfl
  have hlen := hv.has.len (P := Tryz.prog) u30 H
  rw [List.length_map] at hlen
  have g0 : go Tryz.prog X 61 (sub (codeOf Tryz.f36) [false]) (envOf [v] 0 .nil) H = some (.normal, (envOf [v] 0 .nil).set 2 .nilSlice, H) := by
    simp only [codeOf, Tryz.f36, sub, go_seq, go_region, opsSeq_step, opsSeq_guard, guardStep_true, guardStep_false, guardVal, opsSeq_nil, afterStep_some, afterStep_none, stepC, kindOf, quietC, evC, Nat.reduceLT, Tr.get_set, if_true, if_false, Nat.reduceEqDiff, Option.map_some, Option.bind_some, List.getElem?_toArray, List.getElem?_cons_zero, List.getElem?_cons_succ, ofVal, decide_true, decide_false, BEq.rfl, andThen_normal, andThen_exit, andThen_ret, inBlock_normal, inBlock_ret, go_skip, go_exit, go_ret, loudStep, isCall, loudC, targetC, evs, evParts, mapO, List.nil_append, List.append_nil, List.cons_append, loadC, Heap.skip_get, Heap.get_put, Heap.skip_next, Heap.put_next]
  have h0 : ((envOf [v] 0 .nil).set 2 .nilSlice).get 0 = some v := by simp [envOf, Tr.get_set]
  have single : ∀ x ∈ (dd ns).map nm, x.cells.length = 1 := by intro x hx; obtain ⟨y, _, rfl⟩ := List.mem_map.1 hx; rfl
  by_cases h2 : ns.length < 2
  · have hdd : dd ns = ns := by
      match ns, h2 with
      | [], _ => rfl
      | [a], _ => rfl
      | _ :: _ :: _, h => exact absurd h (by simp)
    have e1 : ((ns.length : Nat) : Int) < 2 := by omega
    have g1 : ∃ e, go Tryz.prog X 61 (.seq (sub (codeOf Tryz.f36) [true,false,false]) (.cond (.tmp 8) (sub (codeOf Tryz.f36) [true,false,true,false]) .skip)) ((envOf [v] 0 .nil).set 2 .nilSlice) H = some (.ret, e, H) ∧ e.get 2 = some v := by
      simp only [codeOf, Tryz.f36, sub, go_seq, go_region, opsSeq_step, opsSeq_guard, guardStep_true, guardStep_false, guardVal, opsSeq_nil, afterStep_some, afterStep_none, stepC, kindOf, quietC, evC, Nat.reduceLT, Tr.get_set, if_true, if_false, Nat.reduceEqDiff, Option.map_some, Option.bind_some, List.getElem?_toArray, List.getElem?_cons_zero, List.getElem?_cons_succ, ofVal, decide_true, decide_false, BEq.rfl, andThen_normal, andThen_exit, andThen_ret, inBlock_normal, inBlock_ret, go_skip, go_exit, go_ret, loudStep, isCall, loudC, targetC, evs, evParts, mapO, List.nil_append, List.append_nil, List.cons_append, loadC, Heap.skip_get, Heap.get_put, Heap.skip_next, Heap.put_next, h0, hlen, bin_lss, e1]
      rw [go_cond _ _ _ (v := true) (by simp only [evC, Tr.get_set, if_true])]
      simp only [go_seq, go_region, opsSeq_step, opsSeq_guard, guardStep_true, guardStep_false, guardVal, opsSeq_nil, afterStep_some, afterStep_none, stepC, kindOf, quietC, evC, Nat.reduceLT, Tr.get_set, if_true, if_false, Nat.reduceEqDiff, Option.map_some, Option.bind_some, List.getElem?_toArray, List.getElem?_cons_zero, List.getElem?_cons_succ, ofVal, decide_true, decide_false, BEq.rfl, andThen_normal, andThen_exit, andThen_ret, inBlock_normal, inBlock_ret, go_skip, go_exit, go_ret, loudStep, isCall, loudC, targetC, evs, evParts, mapO, List.nil_append, List.append_nil, List.cons_append, loadC, Heap.skip_get, Heap.get_put, Heap.skip_next, Heap.put_next, h0]
      exact ⟨_, rfl, by simp only [Tr.get_set, if_true]⟩
    obtain ⟨e, g1, q2⟩ := g1
    refine ⟨v, H, calls_ret (hX _ _) Tryz.func36 rfl (by decide) (nt := 61) rfl (env' := e) ?_ (results_one q2), by rw [hdd]; exact hv.has, hok, Ext.refl _ _⟩
    rw [hcode, go_seq, g0, andThen_normal, go_seq, g1, andThen_ret]
  · rcases hv.2 with ⟨_, hnil⟩ | ⟨b, p, rfl, hne, hb, hfb, hget⟩
    · have : ns = [] := by simpa using hnil
      rw [this] at h2; simp at h2
    · rw [nm_flat] at hget
      rw [List.length_map] at h0
      have e1 : ¬ (((ns.length : Nat) : Int) < 2) := by omega
      have g1 : ∃ e, go Tryz.prog X 61 (.seq (sub (codeOf Tryz.f36) [true,false,false]) (.cond (.tmp 8) (sub (codeOf Tryz.f36) [true,false,true,false]) .skip)) ((envOf [(.slice b 0 (ns.map nm).length (.tail 1))] 0 .nil).set 2 .nilSlice) H = some (.normal, e, H) ∧ e.get 0 = some (.slice b 0 ns.length (.tail 1)) := by
        rw [List.length_map]
        simp only [codeOf, Tryz.f36, sub, go_seq, go_region, opsSeq_step, opsSeq_guard, guardStep_true, guardStep_false, guardVal, opsSeq_nil, afterStep_some, afterStep_none, stepC, kindOf, quietC, evC, Nat.reduceLT, Tr.get_set, if_true, if_false, Nat.reduceEqDiff, Option.map_some, Option.bind_some, List.getElem?_toArray, List.getElem?_cons_zero, List.getElem?_cons_succ, ofVal, decide_true, decide_false, BEq.rfl, andThen_normal, andThen_exit, andThen_ret, inBlock_normal, inBlock_ret, go_skip, go_exit, go_ret, loudStep, isCall, loudC, targetC, evs, evParts, mapO, List.nil_append, List.append_nil, List.cons_append, loadC, Heap.skip_get, Heap.get_put, Heap.skip_next, Heap.put_next, h0, lenC, u30, bin_lss, e1]
        rw [go_cond _ _ _ (v := false) (by simp only [evC, Tr.get_set, if_true])]
        simp only [go_seq, go_region, opsSeq_step, opsSeq_guard, guardStep_true, guardStep_false, guardVal, opsSeq_nil, afterStep_some, afterStep_none, stepC, kindOf, quietC, evC, Nat.reduceLT, Tr.get_set, if_true, if_false, Nat.reduceEqDiff, Option.map_some, Option.bind_some, List.getElem?_toArray, List.getElem?_cons_zero, List.getElem?_cons_succ, ofVal, decide_true, decide_false, BEq.rfl, andThen_normal, andThen_exit, andThen_ret, inBlock_normal, inBlock_ret, go_skip, go_exit, go_ret, loudStep, isCall, loudC, targetC, evs, evParts, mapO, List.nil_append, List.append_nil, List.cons_append, loadC, Heap.skip_get, Heap.get_put, Heap.skip_next, Heap.put_next, Bool.false_eq_true]
        exact ⟨_, rfl, by simp only [Tr.get_set, Nat.reduceEqDiff, if_false]; exact h0⟩
      obtain ⟨e, g1, q0⟩ := g1
      have g3 : go Tryz.prog X 61 (sub (codeOf Tryz.f36) [true,true,false,false]) e H = some (.normal, e.set 3 (.int .i64 (1 : Nat)), H) := by
        simp only [codeOf, Tryz.f36, sub, go_seq, go_region, opsSeq_step, opsSeq_guard, guardStep_true, guardStep_false, guardVal, opsSeq_nil, afterStep_some, afterStep_none, stepC, kindOf, quietC, evC, Nat.reduceLT, Tr.get_set, if_true, if_false, Nat.reduceEqDiff, Option.map_some, Option.bind_some, List.getElem?_toArray, List.getElem?_cons_zero, List.getElem?_cons_succ, ofVal, decide_true, decide_false, BEq.rfl, andThen_normal, andThen_exit, andThen_ret, inBlock_normal, inBlock_ret, go_skip, go_exit, go_ret, loudStep, isCall, loudC, targetC, evs, evParts, mapO, List.nil_append, List.append_nil, List.cons_append, loadC, Heap.skip_get, Heap.get_put, Heap.skip_next, Heap.put_next]; rfl
      have hn2 : n ≤ f := hf (by intro h; cases h)
      have hd1 : dd (ns.take 1) = ns.take 1 := by
        match ns, h2 with
        | [], h => exact absurd (by simp) h
        | a :: t, _ => rfl
      obtain ⟨ce, e2, H2, cs, g, b1, b2, b3, b4, b5, b6⟩ := compact_loop (X := X) hm hns hn2 (Nat.le_trans hn2 hfb) (ns.length - 1) 1 (e.set 3 (.int .i64 (1 : Nat))) H (by omega) (by omega) hd1 (by simp only [Tr.get_set, Nat.reduceEqDiff, if_false]; exact q0)
        (by simp only [Tr.get_set, if_true]) hget hok
      have hbn : b < H2.next := Nat.lt_of_lt_of_le hb b5.1
      have hhas : Has H2 1 9 (.slice b 0 (dd ns).length (.tail 1)) ((dd ns).map nm) := by
        refine ⟨single, .inr ⟨b, 0, .tail 1, cs, _, by rw [List.length_map], fun _ _ h => (by cases h), hbn, b1, by rw [List.length_map]; omega, ?_⟩⟩
        rw [List.drop_zero, List.length_map, Nat.mul_one, b2, nm_flat]
      rcases b6 with ⟨rfl, hdd, q⟩ | ⟨rfl, q⟩
      · have g16 : go Tryz.prog X 61 (sub (codeOf Tryz.f36) [true,true,true,false]) e2 H2 = some (.normal, (e2.set 60 (.slice b 0 ns.length (.tail 1))).set 2 (.slice b 0 ns.length (.tail 1)), H2) := by
          simp only [codeOf, Tryz.f36, sub, go_seq, go_region, opsSeq_step, opsSeq_guard, guardStep_true, guardStep_false, guardVal, opsSeq_nil, afterStep_some, afterStep_none, stepC, kindOf, quietC, evC, Nat.reduceLT, Tr.get_set, if_true, if_false, Nat.reduceEqDiff, Option.map_some, Option.bind_some, List.getElem?_toArray, List.getElem?_cons_zero, List.getElem?_cons_succ, ofVal, decide_true, decide_false, BEq.rfl, andThen_normal, andThen_exit, andThen_ret, inBlock_normal, inBlock_ret, go_skip, go_exit, go_ret, loudStep, isCall, loudC, targetC, evs, evParts, mapO, List.nil_append, List.append_nil, List.cons_append, loadC, Heap.skip_get, Heap.get_put, Heap.skip_next, Heap.put_next, q]
        refine ⟨.slice b 0 ns.length (.tail 1), H2, calls_ret (hX _ _) Tryz.func36 rfl (by decide) (nt := 61) rfl (env' := (e2.set 60 (.slice b 0 ns.length (.tail 1))).set 2 (.slice b 0 ns.length (.tail 1))) ?_ (results_one (by simp only [Tr.get_set, if_true])), ?_, b4, b5⟩
        · rw [hcode, go_seq, g0, andThen_normal, go_seq, g1, andThen_normal, go_seq, go_seq, g3, andThen_normal, go_block, g, inBlock_exit, if_pos rfl, andThen_normal, go_seq, g16, andThen_normal, go_ret]
        · rw [hdd] at hhas; rw [hdd]; exact hhas
      · refine ⟨_, H2, calls_ret (hX _ _) Tryz.func36 rfl (by decide) (nt := 61) rfl (env' := e2) ?_ (results_one q), hhas, b4, b5⟩
        rw [hcode, go_seq, g0, andThen_normal, go_seq, g1, andThen_normal, go_seq, go_seq, g3, andThen_normal, go_block, g, inBlock_ret, andThen_ret]
end Go.Y
