/- Facts about the program's types, and what its plain values look like. Make: relations out of descriptions. units: the names in relations, in order, each once. First: the loop that lists them. -/
import Derived.Test.YtmnhkbhdfkebmaaGreatDoorProg
import Derived.KernelRfl
import Derived.Test.YtmnhkbhdfkebmaaGreatDoorK12

set_option linter.unusedSimpArgs false
set_option linter.unusedVariables false

namespace Go.Z
open Go.K Go.Proofs
set_option linter.unusedSimpArgs false
set_option linter.unusedVariables false



theorem u3 : Tryz.prog.underlying 3 = some (.int .i64) := by kernel_rfl
theorem u4 : Tryz.prog.underlying 4 = some .bool := by kernel_rfl
theorem u5 : Tryz.prog.underlying 5 = some (.int .u8) := by kernel_rfl
theorem u9 : Tryz.prog.underlying 9 = some .string := by kernel_rfl
theorem u22 : Tryz.prog.underlying 22 = some (.slice 39) := by kernel_rfl
theorem u24 : Tryz.prog.underlying 24 = some (.slice 42) := by kernel_rfl
theorem u26 : Tryz.prog.underlying 26 = some (.slice 3) := by kernel_rfl
theorem u27 : Tryz.prog.underlying 27 = some (.int .i64) := by kernel_rfl
theorem u30 : Tryz.prog.underlying 30 = some (.slice 9) := by kernel_rfl
theorem u39 : Tryz.prog.underlying 39 = some (.array 3 5) := by kernel_rfl
theorem u51 : Tryz.prog.underlying 51 = some (.map 9 4) := by kernel_rfl
theorem u52 : Tryz.prog.underlying 52 = some (.map 9 3) := by kernel_rfl
theorem u74 : Tryz.prog.underlying 74 = some (.slice 79) := by kernel_rfl
theorem u75 : Tryz.prog.underlying 75 = some (.slice 74) := by kernel_rfl
theorem u87 : Tryz.prog.underlying 87 = some (.slice 3) := by kernel_rfl

theorem s3 : szC Tryz.prog 3 = some 1 := by kernel_rfl
theorem s4 : szC Tryz.prog 4 = some 1 := by kernel_rfl
theorem s5 : szC Tryz.prog 5 = some 1 := by kernel_rfl
theorem s9 : szC Tryz.prog 9 = some 1 := by kernel_rfl
theorem s26 : szC Tryz.prog 26 = some 1 := by kernel_rfl
theorem s30 : szC Tryz.prog 30 = some 1 := by kernel_rfl
theorem s39 : szC Tryz.prog 39 = some 3 := by kernel_rfl
theorem s42 : szC Tryz.prog 42 = some 3 := by kernel_rfl
theorem s74 : szC Tryz.prog 74 = some 1 := by kernel_rfl
theorem s77 : szC Tryz.prog 77 = some 4 := by kernel_rfl
theorem s79 : szC Tryz.prog 79 = some 3 := by kernel_rfl
theorem s87 : szC Tryz.prog 87 = some 1 := by kernel_rfl

theorem g3 : isAggC Tryz.prog 3 = some false := by kernel_rfl
theorem g5 : isAggC Tryz.prog 5 = some false := by kernel_rfl
theorem g9 : isAggC Tryz.prog 9 = some false := by kernel_rfl
theorem g24 : isAggC Tryz.prog 24 = some false := by kernel_rfl
theorem g26 : isAggC Tryz.prog 26 = some false := by kernel_rfl
theorem g30 : isAggC Tryz.prog 30 = some false := by kernel_rfl
theorem g39 : isAggC Tryz.prog 39 = some true := by kernel_rfl
theorem g42 : isAggC Tryz.prog 42 = some true := by kernel_rfl
theorem g52 : isAggC Tryz.prog 52 = some false := by kernel_rfl
theorem g74 : isAggC Tryz.prog 74 = some false := by kernel_rfl
theorem g75 : isAggC Tryz.prog 75 = some false := by kernel_rfl
theorem g77 : isAggC Tryz.prog 77 = some true := by kernel_rfl
theorem g79 : isAggC Tryz.prog 79 = some true := by kernel_rfl
theorem g87 : isAggC Tryz.prog 87 = some false := by kernel_rfl

theorem z3 : zeroC Tryz.prog 3 = some [.int .i64 0] := by kernel_rfl
theorem z9 : zeroC Tryz.prog 9 = some [.str .empty] := by kernel_rfl
theorem z26 : zeroC Tryz.prog 26 = some [.nilSlice] := by kernel_rfl
theorem z42 : zeroC Tryz.prog 42 = some [.int .i64 0, .str .empty, .str .empty] := by kernel_rfl
theorem z74 : zeroC Tryz.prog 74 = some [.nilSlice] := by kernel_rfl
theorem z77 : zeroC Tryz.prog 77 = some [.nilSlice, .nilMap, .nilSlice, .nilSlice] := by kernel_rfl
theorem z79 : zeroC Tryz.prog 79 = some [.int .i64 0, .int .i64 0, .int .i64 0] := by kernel_rfl

theorem fa42_0 (b off : Nat) : fieldAddrC Tryz.prog 42 (.ptr b off) 0 = some (.ptr b off) := by kernel_rfl
theorem fa42_1 (b off : Nat) : fieldAddrC Tryz.prog 42 (.ptr b off) 1 = some (.ptr b (off + 1)) := by kernel_rfl
theorem fa42_2 (b off : Nat) : fieldAddrC Tryz.prog 42 (.ptr b off) 2 = some (.ptr b (off + 2)) := by kernel_rfl
theorem fa77_0 (b off : Nat) : fieldAddrC Tryz.prog 77 (.ptr b off) 0 = some (.ptr b off) := by kernel_rfl
theorem fa77_1 (b off : Nat) : fieldAddrC Tryz.prog 77 (.ptr b off) 1 = some (.ptr b (off + 1)) := by kernel_rfl
theorem fa77_2 (b off : Nat) : fieldAddrC Tryz.prog 77 (.ptr b off) 2 = some (.ptr b (off + 2)) := by kernel_rfl
theorem fa77_3 (b off : Nat) : fieldAddrC Tryz.prog 77 (.ptr b off) 3 = some (.ptr b (off + 3)) := by kernel_rfl
theorem fa79_0 (b off : Nat) : fieldAddrC Tryz.prog 79 (.ptr b off) 0 = some (.ptr b off) := by kernel_rfl
theorem fa79_1 (b off : Nat) : fieldAddrC Tryz.prog 79 (.ptr b off) 1 = some (.ptr b (off + 1)) := by kernel_rfl
theorem fa79_2 (b off : Nat) : fieldAddrC Tryz.prog 79 (.ptr b off) 2 = some (.ptr b (off + 2)) := by kernel_rfl

/-- A letter's name: the text of one letter. -/
def nm (n : Nat) : CV := .str ⟨#[UInt8.ofNat (97 + n)]⟩
/-- A description, and a relation, as values. -/
def seenCV (s : Nat × Nat × Nat) : CV := .agg [.int .u8 s.1, .int .u8 s.2.1, .int .u8 s.2.2]
def relCV (r : Nat × Nat × Nat) : CV := .agg [.int .i64 r.1, nm r.2.1, nm r.2.2]
/-- What a description describes: kind, upper, lower. -/
def relOf (s : Nat × Nat × Nat) : Nat × Nat × Nat := (1 + s.1 % 4, s.2.1 % 8, if s.2.2 % 8 = s.2.1 % 8 then (s.2.2 % 8 + 1) % 8 else s.2.2 % 8)
end Go.Z
namespace Go.Z
open Go.K Go.Proofs
theorem ia39_0 (b off : Nat) : indexAddrC Tryz.prog 39 (.ptr b off) (.int .i64 0) = some (.ptr b off) := by kernel_rfl
theorem ia39_1 (b off : Nat) : indexAddrC Tryz.prog 39 (.ptr b off) (.int .i64 1) = some (.ptr b (off + 1)) := by kernel_rfl
theorem ia39_2 (b off : Nat) : indexAddrC Tryz.prog 39 (.ptr b off) (.int .i64 2) = some (.ptr b (off + 2)) := by kernel_rfl


theorem bs24 (x : Operand) (ρ : Operand → Option CV) : allocC Tryz.prog (.buildSlice 24 1 #[(0, x)]) ρ = (ρ x).bind fun v => if v.cells.length = 2 + 1 then some (.cells v.cells 42 none, fun b => .slice b 0 1 (.exact 1)) else none :=
  allocC_one u24 s42 z42 rfl (by omega) x ρ
theorem bs26 (x : Operand) (ρ : Operand → Option CV) : allocC Tryz.prog (.buildSlice 26 1 #[(0, x)]) ρ = (ρ x).bind fun v => if v.cells.length = 0 + 1 then some (.cells v.cells 3 none, fun b => .slice b 0 1 (.exact 1)) else none :=
  allocC_one u26 s3 z3 rfl (by omega) x ρ
theorem bs87 (x : Operand) (ρ : Operand → Option CV) : allocC Tryz.prog (.buildSlice 87 1 #[(0, x)]) ρ = (ρ x).bind fun v => if v.cells.length = 0 + 1 then some (.cells v.cells 3 none, fun b => .slice b 0 1 (.exact 1)) else none :=
  allocC_one u87 s3 z3 rfl (by omega) x ρ
theorem bs74 (x : Operand) (ρ : Operand → Option CV) : allocC Tryz.prog (.buildSlice 74 1 #[(0, x)]) ρ = (ρ x).bind fun v => if v.cells.length = 2 + 1 then some (.cells v.cells 79 none, fun b => .slice b 0 1 (.exact 1)) else none :=
  allocC_one u74 s79 z79 rfl (by omega) x ρ
theorem bs30 (x y : Operand) (ρ : Operand → Option CV) : allocC Tryz.prog (.buildSlice 30 2 #[(0, x), (1, y)]) ρ = (ρ x).bind fun v => (ρ y).bind fun u => if v.cells.length = 1 ∧ u.cells.length = 1 then some (.cells (v.cells ++ u.cells) 9 none, fun b => .slice b 0 2 (.exact 2)) else none :=
  allocC_two u30 s9 z9 x y ρ
theorem build42 (k : Int) (a b : Nat) : buildC Tryz.prog 42 [(0, .int .i64 k), (1, nm a), (2, nm b)] = some (.agg [.int .i64 k, nm a, nm b]) := by kernel_rfl
theorem build79 (i j k : Int) : buildC Tryz.prog 79 [(0, .int .i64 i), (1, .int .i64 j), (2, .int .i64 k)] = some (.agg [.int .i64 i, .int .i64 j, .int .i64 k]) := by kernel_rfl
theorem nm_cells (n : Nat) : (nm n).cells = [nm n] := rfl
theorem nm_single (n : Nat) : (nm n).single = true := rfl
theorem info_of {t sz by' : Nat} (h : (Tryz.prog.info? t).map (fun i => (i.size, i.bytes)) = some (sz, by')) : ∃ i : TypeInfo, Tryz.prog.info? t = some i ∧ i.size = sz ∧ i.bytes = by' := by
  cases e : Tryz.prog.info? t with
  | none => rw [e] at h; cases h
  | some i => rw [e] at h; simp only [Option.map_some, Option.some.injEq, Prod.mk.injEq] at h; exact ⟨i, rfl, h.1, h.2⟩
theorem i42 : ∃ i : TypeInfo, Tryz.prog.info? 42 = some i ∧ i.size = 3 ∧ i.bytes = 40 := info_of (by kernel_rfl)
theorem i9 : ∃ i : TypeInfo, Tryz.prog.info? 9 = some i ∧ i.size = 1 ∧ i.bytes = 16 := info_of (by kernel_rfl)
theorem i3 : ∃ i : TypeInfo, Tryz.prog.info? 3 = some i ∧ i.size = 1 ∧ i.bytes = 8 := info_of (by kernel_rfl)
theorem i79 : ∃ i : TypeInfo, Tryz.prog.info? 79 = some i ∧ i.size = 3 ∧ i.bytes = 24 := info_of (by kernel_rfl)
theorem i74 : ∃ i : TypeInfo, Tryz.prog.info? 74 = some i ∧ i.size = 1 ∧ i.bytes = 24 := info_of (by kernel_rfl)

theorem al3 (ρ : Operand → Option CV) : allocC Tryz.prog (.alloc 3) ρ = some (.cells [.int .i64 0] 3 none, fun b => .ptr b 0) := by simp only [allocC, z3, Option.map_some]
theorem al26 (ρ : Operand → Option CV) : allocC Tryz.prog (.alloc 26) ρ = some (.cells [.nilSlice] 26 none, fun b => .ptr b 0) := by simp only [allocC, z26, Option.map_some]
theorem al42 (ρ : Operand → Option CV) : allocC Tryz.prog (.alloc 42) ρ = some (.cells [.int .i64 0, .str .empty, .str .empty] 42 none, fun b => .ptr b 0) := by simp only [allocC, z42, Option.map_some]
theorem al79 (ρ : Operand → Option CV) : allocC Tryz.prog (.alloc 79) ρ = some (.cells [.int .i64 0, .int .i64 0, .int .i64 0] 79 none, fun b => .ptr b 0) := by simp only [allocC, z79, Option.map_some]

theorem nm_beq {x y : Nat} (hx : x < 100) (hy : y < 100) : bytesEq [UInt8.ofNat (97 + x)] [UInt8.ofNat (97 + y)] = decide (x = y) := by
  rw [bytesEq_eq]
  by_cases h : x = y
  · subst h; simp
  · have hne : ¬ ([UInt8.ofNat (97 + x)] = [UInt8.ofNat (97 + y)]) := by
      intro e
      injection e with e _
      have e2 : (UInt8.ofNat (97 + x)).toNat = (UInt8.ofNat (97 + y)).toNat := by rw [e]
      rw [UInt8.toNat_ofNat', UInt8.toNat_ofNat'] at e2
      omega
    rw [beq_eq_false_iff_ne.2 hne, decide_eq_false h]
theorem nm_neq {x y : Nat} (hx : x < 100) (hy : y < 100) : binC Tryz.prog .neq 9 (nm x) (nm y) = some (.bool (decide (x ≠ y))) := by
  simp only [nm, binC, strBin]
  rw [show bytesEq [UInt8.ofNat (97 + x)] [UInt8.ofNat (97 + y)] = decide (x = y) from nm_beq hx hy]
  by_cases h : x = y <;> simp [h]
theorem nm_eql {x y : Nat} (hx : x < 100) (hy : y < 100) : binC Tryz.prog .eql 9 (nm x) (nm y) = some (.bool (decide (x = y))) := by
  simp only [nm, binC, strBin]
  rw [show bytesEq [UInt8.ofNat (97 + x)] [UInt8.ofNat (97 + y)] = decide (x = y) from nm_beq hx hy]
end Go.Z

namespace Go.Z
open Go.K Go.Proofs
set_option linter.unusedSimpArgs false
set_option linter.unusedVariables false
set_option maxRecDepth 10000

variable {X : CallFn}

theorem make_r8 (hU : ∀ (c : Nat) (H : Heap), c < 256 → calls Tryz.prog X 14 [.int .u8 c] H = some (nm (c % 8), H))
    {env : Env} {H : Heap} {l v : CV} {ss : List (Nat × Nat × Nat)} {vs : List CV} {f i lo : Nat}
    (h0 : env.get 0 = some l) (h3 : env.get 3 = some v) (h4 : env.get 4 = some (.int .i64 i)) (h5 : env.get 5 = some (.int .u8 lo))
    (hl : Look H 3 l (ss.map seenCV)) (hi : i < ss.length) (hlt : ∀ s ∈ ss, s.1 < 256 ∧ s.2.1 < 256 ∧ s.2.2 < 256) (hlo : lo < 256)
    (hv : Own H f 3 42 v vs) (hk : HOk H) (hlen : vs.length < 100) :
    ∃ env' v' H' f', go Tryz.prog X 53 (sub (codeOf Tryz.f6) [true,true,false,true,false,false,true,false,false,true,true]) env H = some (.normal, env', H') ∧ env'.get 0 = some l ∧ env'.get 4 = some (.int .i64 i) ∧
      env'.get 3 = some v' ∧ Own H' f' 3 42 v' (vs ++ [relCV (1 + ss[i].1 % 4, ss[i].2.1 % 8, lo % 8)]) ∧ HOk H' ∧ v' ≠ .nilSlice ∧ (v = .nilSlice → H.next ≤ f') ∧ (v ≠ .nilSlice → f' = f) ∧
      ∀ n, n ≤ H.next → (v ≠ .nilSlice → n ≤ f) → Ext n H H' := by
  obtain ⟨b, off, cs, hb, _, hidx, hget, hcells, hcell⟩ := hl.at (P := Tryz.prog) (t := 22) u22 s39 (i := i) (by simpa using hi)
  rw [List.getElem_map] at hcell
  have hc0 : cs[off]? = some (.int .u8 ss[i].1) := hcell 0 _ rfl
  have hc1 : cs[off + 1]? = some (.int .u8 ss[i].2.1) := hcell 1 _ rfl
  have hvb := hv.has.cbeq 12
  have hlb := hl.cbeq 12
  obtain ⟨hs1, hs2, hs3⟩ := hlt ss[i] (List.getElem_mem _)
  have hx : elemsC ((H.skip 21).put (H.next + 18) (.cells [.int .i64 (1 + ss[i].1 % 4 : Nat), nm (ss[i].2.1 % 8), nm (lo % 8)] 42 none)) 3 (.slice (H.next + 18) 0 1 (.exact 1)) =
      some ([relCV (1 + ss[i].1 % 4, ss[i].2.1 % 8, lo % 8)].length, [relCV (1 + ss[i].1 % 4, ss[i].2.1 % 8, lo % 8)].flatMap CV.cells) := by
    simp [elemsC, Heap.get_put, takeE, relCV, CV.cells]
  have hE : Ext H.next H ((H.skip 21).put (H.next + 18) (.cells [.int .i64 (1 + ss[i].1 % 4 : Nat), nm (ss[i].2.1 % 8), nm (lo % 8)] 42 none)) := Ext.trans Ext.skip (Ext.put (by omega))
  have hv1 := hv.ext hE hv.lt
  have hk1 : HOk ((H.skip 21).put (H.next + 18) (.cells [.int .i64 (1 + ss[i].1 % 4 : Nat), nm (ss[i].2.1 % 8), nm (lo % 8)] 42 none)) := Hok.put rfl (Hok.skip 21 hk)
  obtain ⟨ti, hti, hts, htb⟩ := i42
  obtain ⟨v', H', f', happ, hf1, hf2, hown, hok, hnext, hkeep⟩ := hv1.append hk1 hx (by simp [relCV, CV.cells]) (by simp) u24 u24 (by intro k e; cases e) hti hts (by omega) z42 rfl rfl
    (by simp only [List.length_cons, List.length_nil, htb]; omega) (by simp; omega)
  have ht4 : ((ss[i].1 : Nat) : Int).tmod 4 = ((ss[i].1 % 4 : Nat) : Int) := tmod_nat _ 4
  have hw1 : wrap .i64 ((ss[i].1 % 4 : Nat) : Int) = ((ss[i].1 % 4 : Nat) : Int) := wrap64 (by omega) (by omega)
  have hw2 : wrap .i64 (1 + ((ss[i].1 % 4 : Nat) : Int)) = ((1 + ss[i].1 % 4 : Nat) : Int) := by rw [wrap64 (by omega) (by omega)]; omega
  simp only [codeOf, Tryz.f6, sub]
  rw [go_planned [(9,0,[0],false),(10,0,[4],false),(11,0,[41,42],false),(12,0,[43],false),(13,0,[44],false),(14,0,[45],true),(15,0,[5],false),(16,1,[47],true),(0,0,[3],false),(1,0,[0],false),(2,0,[4],false),
   (3,0,[33,34],false),(4,0,[35],false),(5,0,[36],false),(6,0,[37],false),(7,0,[38],false),(8,0,[39],false),(17,2,[40,46,48],false),(18,2,[49],false),(19,2,[32,50],true),(20,3,[51],false)] rfl (by kernel_rfl)]
  simp only [planRun_cons, planRun_nil, planStep, List.getElem?_cons_zero, List.getElem?_cons_succ, drawStep_eq, kindOf, quietAt, quietC, evR, evC, memN, beq_dec, Nat.reduceEqDiff, decide_true, decide_false, setDS_some, loudDS_some, allocDS_some, Nat.reduceLT, h0, h3, h4, h5, Tr.get_set, if_true, if_false,
    Option.map_some, Option.bind_some, hidx, List.length_cons, List.length_nil, sameAt, Nat.reduceAdd, Nat.reduceSub, ofVal, ia39_0, ia39_1, loadC, g5, hget, hc0, hc1, Heap.skip_get, Heap.get_put, loudStep, isCall, targetC, evs, mapO, List.cons_append, List.nil_append, List.append_nil, putAll, hU, hs1, hs2, hlo,
    bin_add, bin_rem, convC, u5, u3, ne_eq, reduceCtorEq, not_false_eq_true, Int.reduceEq, eq_self, cbeq_int, cbeq_ptr, hvb, hlb, Bool.and_self, Bool.and_true, Int.reduceNeg, List.append_eq, ht4, hw1, hw2, evParts, build42, bs24, CV.cells, loudC, List.getElem?_toArray, happ]
  refine ⟨_, v', H', f', rfl, ?_, ?_, ?_, hown, hok, ?_, fun e => ?_, hf2, fun n hn hf => ?_⟩
  · simp only [Tr.get_set, Nat.reduceEqDiff, if_false, h0]
  · simp only [Tr.get_set, Nat.reduceEqDiff, if_false, h4]
  · simp only [Tr.get_set, if_true]
  · rcases hown.2 with ⟨_, e⟩ | ⟨_, _, e, _⟩
    · simp at e
    · rw [e]; intro h; cases h
  · rw [hf1 e]; exact Nat.le_add_right _ _
  · have hn' : H.next ≤ ((H.skip 21).put (H.next + 18) (.cells [.int .i64 (1 + ss[i].1 % 4 : Nat), nm (ss[i].2.1 % 8), nm (lo % 8)] 42 none)).next := Nat.le_add_right _ _
    exact (hE.le hn).trans (keep_ext hk1 (by omega) (by omega) hf hkeep)

theorem make_r5 {env : Env} {H : Heap} {l v : CV} {ss : List (Nat × Nat × Nat)} {i : Nat}
    (h0 : env.get 0 = some l) (h3 : env.get 3 = some v) (h4 : env.get 4 = some (.int .i64 i))
    (hl : Look H 3 l (ss.map seenCV)) (hi : i < ss.length) (hlt : ∀ s ∈ ss, s.1 < 256 ∧ s.2.1 < 256 ∧ s.2.2 < 256) :
    ∃ env', go Tryz.prog X 53 (sub (codeOf Tryz.f6) [true,true,false,true,false,false,true,false,false,false]) env H = some (.normal, env', H) ∧ env'.get 0 = some l ∧ env'.get 3 = some v ∧ env'.get 4 = some (.int .i64 i) ∧
      env'.get 5 = some (.int .u8 (ss[i].2.2 % 8 : Nat)) := by
  obtain ⟨b, off, cs, hb, _, hidx, hget, hcells, hcell⟩ := hl.at (P := Tryz.prog) (t := 22) u22 s39 (i := i) (by simpa using hi)
  rw [List.getElem_map] at hcell
  have hc2 : cs[off + 2]? = some (.int .u8 ss[i].2.2) := hcell 2 _ rfl
  have ht : ((ss[i].2.2 : Nat) : Int).tmod 8 = ((ss[i].2.2 % 8 : Nat) : Int) := tmod_nat _ 8
  simp only [codeOf, Tryz.f6, sub, go_region, opsSeq_step, opsSeq_nil, afterStep_some, stepC, kindOf, quietC, evC, Nat.reduceLT, h0, h3, h4, Tr.get_set, if_true, if_false, Nat.reduceEqDiff, Option.map_some, Option.bind_some, hidx, ofVal, ia39_2, loadC, g5, hget, hc2,
    bin_rem, ne_eq, Int.reduceEq, not_false_eq_true, ht]
  exact ⟨_, rfl, by simp [Tr.get_set, h0], by simp [Tr.get_set, h3], by simp [Tr.get_set, h4], by simp [Tr.get_set]⟩

theorem make_r6 {env : Env} {H : Heap} {l v : CV} {ss : List (Nat × Nat × Nat)} {i c : Nat}
    (h0 : env.get 0 = some l) (h3 : env.get 3 = some v) (h4 : env.get 4 = some (.int .i64 i)) (h5 : env.get 5 = some (.int .u8 c)) (hc : c < 8)
    (hl : Look H 3 l (ss.map seenCV)) (hi : i < ss.length) (hlt : ∀ s ∈ ss, s.1 < 256 ∧ s.2.1 < 256 ∧ s.2.2 < 256) :
    ∃ env', go Tryz.prog X 53 (sub (codeOf Tryz.f6) [true,true,false,true,false,false,true,false,false,true,false]) env H = some (.normal, env', H) ∧ env'.get 0 = some l ∧ env'.get 3 = some v ∧ env'.get 4 = some (.int .i64 i) ∧
      env'.get 5 = some (.int .u8 (if c = ss[i].2.1 % 8 then c + 1 else c : Nat)) := by
  obtain ⟨b, off, cs, hb, _, hidx, hget, hcells, hcell⟩ := hl.at (P := Tryz.prog) (t := 22) u22 s39 (i := i) (by simpa using hi)
  rw [List.getElem_map] at hcell
  have hc1 : cs[off + 1]? = some (.int .u8 ss[i].2.1) := hcell 1 _ rfl
  have ht : ((ss[i].2.1 : Nat) : Int).tmod 8 = ((ss[i].2.1 % 8 : Nat) : Int) := tmod_nat _ 8
  have hw : wrap .u8 ((c : Int) + 1) = ((c + 1 : Nat) : Int) := wrap8 (by omega) (by omega)
  simp only [codeOf, Tryz.f6, sub, go_seq, go_region, opsSeq_step, opsSeq_nil, afterStep_some, stepC, kindOf, quietC, evC, Nat.reduceLT, h0, h3, h4, h5, Tr.get_set, if_true, if_false, Nat.reduceEqDiff, Option.map_some, Option.bind_some, hidx, ofVal, ia39_1, loadC, g5, hget, hc1,
    bin_rem, bin_eql, bin_add, ne_eq, Int.reduceEq, not_false_eq_true, ht, andThen_normal, Int.natCast_inj]
  rw [go_cond _ _ _ (v := decide (c = ss[i].2.1 % 8)) (by simp only [evC, Tr.get_set, if_true])]
  by_cases h : c = ss[i].2.1 % 8
  · simp only [h, decide_true, if_true]
    rw [← h]
    simp only [go_region, opsSeq_step, opsSeq_nil, afterStep_some, stepC, kindOf, quietC, evC, Nat.reduceLT, h5, Tr.get_set, if_true, if_false, Nat.reduceEqDiff, Option.map_some, Option.bind_some, ofVal, bin_add, hw]
    exact ⟨_, rfl, by simp [Tr.get_set, h0], by simp [Tr.get_set, h3], by simp [Tr.get_set, h4], by simp [Tr.get_set]⟩
  · simp only [h, decide_false, Bool.false_eq_true, if_false, go_skip]
    exact ⟨_, rfl, by simp [Tr.get_set, h0], by simp [Tr.get_set, h3], by simp [Tr.get_set, h4], by simp [Tr.get_set, h5]⟩

theorem make_r3 {env : Env} {H : Heap} {l v : CV} {ss : List (Nat × Nat × Nat)} {i : Nat}
    (h0 : env.get 0 = some l) (h3 : env.get 3 = some v) (h4 : env.get 4 = some (.int .i64 i)) (hl : Look H 3 l (ss.map seenCV)) (hn : ss.length ≤ 8) (hi : i ≤ ss.length) :
    ∃ env', go Tryz.prog X 53 (sub (codeOf Tryz.f6) [true,true,false,true,false,false,false]) env H = (if i < ss.length then some (.normal, env', H) else some (.exit 0, env', H)) ∧
      env'.get 0 = some l ∧ env'.get 3 = some v ∧ env'.get 4 = some (.int .i64 i) := by
  have hlen := hl.len (P := Tryz.prog) u22 H
  rw [List.length_map] at hlen
  by_cases h : i < ss.length
  · have e1 : (i : Int) < (ss.length : Int) := by omega
    have e2 : (i : Int) < 12 := by omega
    simp only [codeOf, Tryz.f6, sub, go_seq, go_region, opsSeq_step, opsSeq_guard, guardStep_true, guardStep_false, guardVal, opsSeq_nil, afterStep_some, stepC, kindOf, quietC, evC, Nat.reduceLT, h0, h3, h4, Tr.get_set, if_true, if_false, Nat.reduceEqDiff, Option.map_some, Option.bind_some,
      List.getElem?_toArray, List.getElem?_cons_zero, List.getElem?_cons_succ, hlen, ofVal, bin_lss, e1, e2, decide_true, BEq.rfl, andThen_normal]
    rw [go_cond _ _ _ (v := true) (by simp only [evC, Tr.get_set, if_true])]
    simp only [if_true, go_skip, if_pos h]
    exact ⟨_, rfl, by simp [Tr.get_set, h0], by simp [Tr.get_set, h3], by simp [Tr.get_set, h4]⟩
  · have e1 : ¬ ((i : Int) < (ss.length : Int)) := by omega
    have eb : (false == true) = false := rfl
    simp only [codeOf, Tryz.f6, sub, go_seq, go_region, opsSeq_step, opsSeq_guard, guardStep_true, guardStep_false, guardVal, opsSeq_nil, afterStep_some, stepC, kindOf, quietC, evC, Nat.reduceLT, h0, h3, h4, Tr.get_set, if_true, if_false, Nat.reduceEqDiff, Option.map_some, Option.bind_some,
      List.getElem?_toArray, List.getElem?_cons_zero, List.getElem?_cons_succ, hlen, ofVal, bin_lss, e1, decide_false, eb, andThen_normal]
    rw [go_cond _ _ _ (v := false) (by simp only [evC, Tr.get_set, if_true])]
    simp only [Bool.false_eq_true, if_false, go_exit, if_neg h]
    exact ⟨_, rfl, by simp [Tr.get_set, h0], by simp [Tr.get_set, h3], by simp [Tr.get_set, h4]⟩

theorem make_r4 {env : Env} {H : Heap} {l v : CV} {i : Nat} (h0 : env.get 0 = some l) (h3 : env.get 3 = some v) (h4 : env.get 4 = some (.int .i64 i)) (hi : i < 1000) :
    ∃ env', go Tryz.prog X 53 (sub (codeOf Tryz.f6) [true,true,false,true,false,false,true,true]) env H = some (.normal, env', H) ∧ env'.get 0 = some l ∧ env'.get 3 = some v ∧ env'.get 4 = some (.int .i64 (i + 1 : Nat)) := by
  have hw : wrap .i64 ((i : Int) + 1) = ((i + 1 : Nat) : Int) := wrap64 (by omega) (by omega)
  simp only [codeOf, Tryz.f6, sub, go_region, opsSeq_step, opsSeq_nil, afterStep_some, stepC, kindOf, quietC, evC, Nat.reduceLT, h4, Tr.get_set, if_true, if_false, Nat.reduceEqDiff, Option.map_some, Option.bind_some, ofVal, bin_add, hw]
  exact ⟨_, rfl, by simp [Tr.get_set, h0], by simp [Tr.get_set, h3], by simp [Tr.get_set]⟩

theorem make_loop (hU : ∀ (c : Nat) (H : Heap), c < 256 → calls Tryz.prog X 14 [.int .u8 c] H = some (nm (c % 8), H)) {l : CV} {ss : List (Nat × Nat × Nat)} (hn : ss.length ≤ 8)
    (hlt : ∀ s ∈ ss, s.1 < 256 ∧ s.2.1 < 256 ∧ s.2.2 < 256) {n : Nat} (hln : ∀ b off len cap, l = .slice b off len cap → b < n) :
    ∀ (k i : Nat) (env : Env) (H : Heap) (v : CV) (f : Nat), i + k = ss.length → env.get 0 = some l → env.get 3 = some v → env.get 4 = some (.int .i64 i) → Look H 3 l (ss.map seenCV) → HOk H → n ≤ H.next →
      Own H f 3 42 v ((ss.take i).map fun s => relCV (relOf s)) → (v ≠ .nilSlice → n ≤ f) →
    ∃ env' v' H' f', go Tryz.prog X 53 (sub (codeOf Tryz.f6) [true,true,false,true,false]) env H = some (.exit 0, env', H') ∧ env'.get 3 = some v' ∧ Own H' f' 3 42 v' (ss.map fun s => relCV (relOf s)) ∧ HOk H' ∧
      (v' ≠ .nilSlice → n ≤ f') ∧ Ext n H H' := by
  have hcode : sub (codeOf Tryz.f6) [true,true,false,true,false] = .loop (.seq (sub (codeOf Tryz.f6) [true,true,false,true,false,false,false]) (.seq (.block 1 (.seq (sub (codeOf Tryz.f6) [true,true,false,true,false,false,true,false,false,false])
    (.seq (sub (codeOf Tryz.f6) [true,true,false,true,false,false,true,false,false,true,false]) (sub (codeOf Tryz.f6) [true,true,false,true,false,false,true,false,false,true,true])))) (sub (codeOf Tryz.f6) [true,true,false,true,false,false,true,true]))) := rfl
  intro k
  induction k with
  | zero =>
    intro i env H v f hik h0 h3 h4 hl hk hnx hv hf
    have : i = ss.length := by omega
    subst this
    obtain ⟨e1, g1, a0, a3, a4⟩ := make_r3 (X := X) h0 h3 h4 hl hn (Nat.le_refl _)
    rw [if_neg (Nat.lt_irrefl _)] at g1
    rw [hcode, go_loop, go_seq, g1, andThen_exit, andThen_exit]
    rw [List.take_length] at hv
    exact ⟨e1, v, H, f, rfl, a3, hv, hk, hf, Ext.refl _ _⟩
  | succ k ih =>
    intro i env H v f hik h0 h3 h4 hl hk hnx hv hf
    have hi : i < ss.length := by omega
    obtain ⟨e1, g1, a0, a3, a4⟩ := make_r3 (X := X) h0 h3 h4 hl hn (by omega)
    rw [if_pos hi] at g1
    obtain ⟨e2, g2, b0, b3, b4, b5⟩ := make_r5 (X := X) a0 a3 a4 hl hi hlt
    obtain ⟨e3, g3, c0, c3, c4, c5⟩ := make_r6 (X := X) b0 b3 b4 b5 (by omega) hl hi hlt
    obtain ⟨e4, v4, H4, f4, g4, d0, d4, d3, hown, hok4, hne, hf1, hf2, hext⟩ := make_r8 hU c0 c3 c4 c5 hl hi hlt (by split <;> omega) hv hk (by rw [List.length_map, List.length_take]; omega)
    obtain ⟨e5, g5, f0, f3, f4'⟩ := make_r4 (X := X) (H := H4) d0 d3 d4 (by omega)
    have hx := hext n hnx hf
    have hrel : relOf ss[i] = (1 + ss[i].1 % 4, ss[i].2.1 % 8, (if ss[i].2.2 % 8 = ss[i].2.1 % 8 then ss[i].2.2 % 8 + 1 else ss[i].2.2 % 8) % 8) := by
      unfold relOf
      congr 2
      split
      · rfl
      · omega
    have hown' : Own H4 f4 3 42 v4 ((ss.take (i + 1)).map fun s => relCV (relOf s)) := by
      rw [List.take_add_one, List.getElem?_eq_getElem hi, Option.toList_some, List.map_append, List.map_singleton, hrel]
      exact hown
    obtain ⟨e6, v6, H6, f6, g6, p3, p4, p5, p6, p7⟩ := ih (i + 1) e5 H4 v4 f4 (by omega) f0 f3 f4' (hl.ext hx hln) hok4 (Nat.le_trans hnx hx.1) hown' (fun _ => by
      by_cases hvn : v = .nilSlice
      · have := hf1 hvn; omega
      · rw [hf2 hvn]; exact hf hvn)
    refine ⟨e6, v6, H6, f6, ?_, p3, p4, p5, p6, hx.trans p7⟩
    rw [hcode, go_loop, ← hcode, go_seq, g1, andThen_normal, go_seq, go_block, go_seq, g2, andThen_normal, go_seq, g3, andThen_normal, g4, inBlock_normal, andThen_normal, g5, andThen_normal]
    exact g6

theorem make_ok (hX : ∀ a H, X 6 a H = none) (hU : ∀ (c : Nat) (H : Heap), c < 256 → calls Tryz.prog X 14 [.int .u8 c] H = some (nm (c % 8), H)) {l : CV} {ss : List (Nat × Nat × Nat)} {H : Heap} (hn : ss.length ≤ 8)
    (hlt : ∀ s ∈ ss, s.1 < 256 ∧ s.2.1 < 256 ∧ s.2.2 < 256) (hl : Look H 3 l (ss.map seenCV)) (hk : HOk H) :
    ∃ v H' f, calls Tryz.prog X 6 [l] H = some (v, H') ∧ Own H' f 3 42 v (ss.map fun s => relCV (relOf s)) ∧ HOk H' ∧ (v ≠ .nilSlice → H.next ≤ f) ∧ Ext H.next H H' := by
  obtain ⟨env', v', H', f', g, h3, hown, hok, hf, hx⟩ := make_loop (X := X) hU hn hlt (n := H.next) hl.lt ss.length 0 ((((envOf [l] 0 .nil).set 2 .nilSlice).set 3 .nilSlice).set 4 (.int .i64 (0 : Nat))) H .nilSlice 0 (by omega)
    (by simp [envOf, Tr.get_set]) (by simp [Tr.get_set]) (by simp [Tr.get_set]) hl hk (Nat.le_refl _) ⟨by simp, .inl ⟨rfl, by simp⟩⟩ (fun h => absurd rfl h)
  have hcode : codeOf Tryz.f6 = .seq (sub (codeOf Tryz.f6) [false]) (.seq (sub (codeOf Tryz.f6) [true,false]) (.seq (.seq (sub (codeOf Tryz.f6) [true,true,false,false]) (.block 0 (sub (codeOf Tryz.f6) [true,true,false,true,false])))
    (.seq (sub (codeOf Tryz.f6) [true,true,true,false]) .ret))) := rfl
  have g0 : go Tryz.prog X 53 (sub (codeOf Tryz.f6) [false]) (envOf [l] 0 .nil) H = some (.normal, (envOf [l] 0 .nil).set 2 .nilSlice, H) := by
    simp only [codeOf, Tryz.f6, sub, go_region, opsSeq_step, opsSeq_nil, afterStep_some, stepC, kindOf, quietC, evC, Nat.reduceLT, ofVal, Option.map_some]
  have g1 : go Tryz.prog X 53 (sub (codeOf Tryz.f6) [true,false]) ((envOf [l] 0 .nil).set 2 .nilSlice) H = some (.normal, ((envOf [l] 0 .nil).set 2 .nilSlice).set 3 .nilSlice, H) := by
    simp only [codeOf, Tryz.f6, sub, go_region, opsSeq_step, opsSeq_nil, afterStep_some, stepC, kindOf, quietC, evC, Nat.reduceLT, ofVal, Option.map_some]
  have g2 : go Tryz.prog X 53 (sub (codeOf Tryz.f6) [true,true,false,false]) (((envOf [l] 0 .nil).set 2 .nilSlice).set 3 .nilSlice) H = some (.normal, (((envOf [l] 0 .nil).set 2 .nilSlice).set 3 .nilSlice).set 4 (.int .i64 (0 : Nat)), H) := by
    simp only [codeOf, Tryz.f6, sub, go_region, opsSeq_step, opsSeq_nil, afterStep_some, stepC, kindOf, quietC, evC, Nat.reduceLT, ofVal, Option.map_some]
    rfl
  have g9 : go Tryz.prog X 53 (sub (codeOf Tryz.f6) [true,true,true,false]) env' H' = some (.normal, (env'.set 52 v').set 2 v', H') := by
    simp only [codeOf, Tryz.f6, sub, go_region, opsSeq_step, opsSeq_nil, afterStep_some, stepC, kindOf, quietC, evC, Nat.reduceLT, ofVal, Option.map_some, h3, Tr.get_set, if_true]
  refine ⟨v', H', f', calls_ret (hX _ _) Tryz.func6 rfl (by decide) (nt := 53) rfl (env' := (env'.set 52 v').set 2 v') ?_ (results_one (by simp [Tr.get_set])), hown, hok, hf, hx⟩
  rw [hcode, go_seq, g0, andThen_normal, go_seq, g1, andThen_normal, go_seq, go_seq, g2, andThen_normal, go_block, g, inBlock_exit, if_pos rfl, andThen_normal, go_seq, g9, andThen_normal, go_ret]
end Go.Z

namespace Go.Z
open Go.K Go.Proofs
set_option linter.unusedSimpArgs false
set_option linter.unusedVariables false
set_option maxRecDepth 10000

variable {X : CallFn}

/-- A relation put into a new variable. -/
theorem store42 {G : Heap} {b k u w : Nat} {cs : List CV} (h : cs.length = 3) : storeC Tryz.prog 42 (G.put b (.cells cs 42 none)) (.ptr b 0) (.agg [.int .i64 k, nm u, nm w]) =
    some (.tuple [], (G.put b (.cells cs 42 none)).put b (.cells [.int .i64 k, nm u, nm w] 42 none)) := by
  have h2 : ([.int .i64 k, nm u, nm w] : List CV).all CV.single = true := rfl
  simp only [storeC, s42, CV.cells, List.length_cons, List.length_nil, writeC, Heap.get_put, if_true, h2, h, Bool.and_true]
  simp [splice, h, Nat.ble, Nat.beq, Heap.upd, CObj.fam, List.drop_of_length_le (Nat.le_of_eq h)]

/-- The names of relations. -/
def namesOf (rs : List (Nat × Nat × Nat)) : List Nat := rs.flatMap fun r => [r.2.1, r.2.2]

theorem units_body {env : Env} {H : Heap} {l v : CV} {rs : List (Nat × Nat × Nat)} {i f : Nat}
    (h3 : env.get 3 = some v) (h6 : env.get 6 = some l) (h7 : env.get 7 = some (.int .i64 rs.length)) (h8 : env.get 8 = some (.int .i64 i))
    (hl : Has H 3 42 l (rs.map relCV)) (hi : i < rs.length) (hr : rs.length ≤ 1000) (hv : Own H f 1 9 v ((namesOf (rs.take i)).map nm)) (hk : HOk H) :
    ∃ env' v' H' f', go Tryz.prog X 24 (sub (codeOf Tryz.f18) [true,true,false,true,false,false]) env H = some (.normal, env', H') ∧ env'.get 3 = some v' ∧ env'.get 6 = some l ∧ env'.get 7 = some (.int .i64 rs.length) ∧ env'.get 8 = some (.int .i64 (i + 1 : Nat)) ∧
      Own H' f' 1 9 v' ((namesOf (rs.take (i + 1))).map nm) ∧ HOk H' ∧ (v = .nilSlice → H.next ≤ f') ∧ (v ≠ .nilSlice → f' = f) ∧ ∀ n, n ≤ H.next → (v ≠ .nilSlice → n ≤ f) → Ext n H H' := by
  obtain ⟨b, off, cs, fam, hb, _, hidx, hget, hcells, hcell⟩ := hl.at (P := Tryz.prog) (t := 24) u24 s42 (i := i) (by simpa using hi)
  rw [List.getElem_map] at hcells
  have hcl : takeE 3 (cs.drop off) = some [.int .i64 rs[i].1, nm rs[i].2.1, nm rs[i].2.2] := hcells
  generalize hH2 : ((H.skip 1).put H.next (.cells [.int .i64 0, .str .empty, .str .empty] 42 none)).put H.next (.cells [.int .i64 rs[i].1, nm rs[i].2.1, nm rs[i].2.2] 42 none) = H2
  have hE2 : Ext H.next H H2 := by rw [← hH2]; exact (Ext.skip.trans (Ext.put (Nat.le_refl _))).trans (Ext.put (Nat.le_refl _))
  have hk2 : HOk H2 := by rw [← hH2]; exact Hok.put rfl (Hok.put rfl (Hok.skip 1 hk))
  have hn2 : H2.next = H.next + 1 := by rw [← hH2]; rfl
  have hg2 : H2.get H.next = some (.cells [.int .i64 rs[i].1, nm rs[i].2.1, nm rs[i].2.2] 42 none) := by rw [← hH2, Heap.get_put, if_pos rfl]
  generalize hH3 : (H2.skip 1).put H2.next (.cells [nm rs[i].2.1, nm rs[i].2.2] 9 none) = H3
  have hE3 : Ext H2.next H2 H3 := by rw [← hH3]; exact Ext.skip.trans (Ext.put (Nat.le_refl _))
  have hk3 : HOk H3 := by rw [← hH3]; exact Hok.put rfl (Hok.skip 1 hk2)
  have hn3 : H3.next = H.next + 2 := by rw [← hH3]; show H2.next + 1 = _; omega
  have hg3 : H3.get H2.next = some (.cells [nm rs[i].2.1, nm rs[i].2.2] 9 none) := by rw [← hH3, Heap.get_put, if_pos rfl]
  have hE : Ext H.next H H3 := hE2.trans (hE3.le (by omega))
  have hx : elemsC H3 1 (.slice H2.next 0 2 (.exact 2)) = some ([nm rs[i].2.1, nm rs[i].2.2].length, [nm rs[i].2.1, nm rs[i].2.2].flatMap CV.cells) := by
    simp [elemsC, hg3, takeE, nm_cells]
  obtain ⟨ti, hti, hts, htb⟩ := i9
  have hlen : ((namesOf (rs.take i)).map nm).length ≤ 2000 := by
    simp only [List.length_map, namesOf, List.length_flatMap, List.length_cons, List.length_nil]
    have : ∀ l : List (Nat × Nat × Nat), (l.map fun _ => 0 + 1 + 1).sum = 2 * l.length := by intro l; induction l with | nil => rfl | cons a l ih => simp [ih]; omega
    rw [this, List.length_take]; omega
  obtain ⟨v', H', f', happ, hf1, hf2, hown, hok, hnext, hkeep⟩ := (hv.ext hE hv.lt).append hk3 hx (by simp [nm_cells]) (by simp) u30 u30 (by intro k e; cases e) hti hts (by omega) z9 rfl rfl
    (by simp only [List.length_cons, List.length_nil, htb]; omega) (by simp only [List.length_cons, List.length_nil]; omega)
  have e1 : (i : Int) < (rs.length : Int) := by omega
  have hw : wrap .i64 ((i : Int) + 1) = ((i + 1 : Nat) : Int) := wrap64 (by omega) (by omega)
  have hnames : namesOf (rs.take (i + 1)) = namesOf (rs.take i) ++ [rs[i].2.1, rs[i].2.2] := by
    rw [List.take_add_one, List.getElem?_eq_getElem hi, Option.toList_some]; simp only [namesOf, List.flatMap_append, List.flatMap_cons, List.flatMap_nil, List.append_nil]
  rw [hnames, List.map_append]
  suffices h : ∃ env', go Tryz.prog X 24 (sub (codeOf Tryz.f18) [true,true,false,true,false,false]) env H = some (.normal, env', H') ∧ env'.get 3 = some v' ∧ env'.get 6 = some l ∧ env'.get 7 = some (.int .i64 rs.length) ∧ env'.get 8 = some (.int .i64 (i + 1 : Nat)) by
    obtain ⟨env', q1, q2, q3, q4, q5⟩ := h
    exact ⟨env', v', H', f', q1, q2, q3, q4, q5, hown, hok, fun e => by rw [hf1 e]; omega, hf2, fun n hn hf => (hE.le hn).trans (keep_ext hk3 (by omega) (by omega) hf hkeep)⟩
  simp only [codeOf, Tryz.f18, sub, go_seq, go_region, opsSeq_step, opsSeq_guard, guardStep_true, guardStep_false, guardVal, opsSeq_nil, afterStep_some, afterStep_none, stepC, kindOf, quietC, evC, Nat.reduceLT, Tr.get_set, if_true, if_false, Nat.reduceEqDiff, Option.map_some, Option.bind_some, List.getElem?_toArray, List.getElem?_cons_zero, List.getElem?_cons_succ, ofVal, decide_true, decide_false, BEq.rfl, andThen_normal, andThen_exit, andThen_ret, inBlock_normal, inBlock_ret, go_skip, go_exit, go_ret, loudStep, isCall, loudC, targetC, evs, evParts, mapO, List.nil_append, List.append_nil, List.cons_append, loadC, Heap.skip_get, Heap.get_put, Heap.skip_next, Heap.put_next, h3, h6, h7, h8, bin_lss, e1]
  rw [go_cond _ _ _ (v := true) (by simp only [evC, Tr.get_set, if_true])]
  simp only [go_seq, go_region, opsSeq_step, opsSeq_guard, guardStep_true, guardStep_false, guardVal, opsSeq_nil, afterStep_some, afterStep_none, stepC, kindOf, quietC, evC, Nat.reduceLT, Tr.get_set, if_true, if_false, Nat.reduceEqDiff, Option.map_some, Option.bind_some, List.getElem?_toArray, List.getElem?_cons_zero, List.getElem?_cons_succ, ofVal, decide_true, decide_false, BEq.rfl, andThen_normal, andThen_exit, andThen_ret, inBlock_normal, inBlock_ret, go_skip, go_exit, go_ret, loudStep, isCall, loudC, targetC, evs, evParts, mapO, List.nil_append, List.append_nil, List.cons_append, loadC, Heap.skip_get, Heap.get_put, Heap.skip_next, Heap.put_next, go_block, h3, h6, h7, h8, hidx, hget, hcl, s42, g42, al42, store42, List.length_cons, List.length_nil, Nat.reduceAdd, hH2, fa42_1, fa42_2, g9, hg2, bs30, nm_cells, and_self, hH3, happ, bin_add, hw]
  exact ⟨_, rfl, by simp only [Tr.get_set, Nat.reduceEqDiff, if_true, if_false], by simp only [Tr.get_set, Nat.reduceEqDiff, if_true, if_false, h6], by simp only [Tr.get_set, Nat.reduceEqDiff, if_true, if_false, h7], by simp only [Tr.get_set, if_true]⟩

theorem units_exit {env : Env} {H : Heap} {n : Nat} (h7 : env.get 7 = some (.int .i64 n)) (h8 : env.get 8 = some (.int .i64 n)) :
    go Tryz.prog X 24 (sub (codeOf Tryz.f18) [true,true,false,true,false,false]) env H = some (.exit 0, env.set 9 (.bool false), H) := by
  have e1 : ¬ ((n : Int) < (n : Int)) := by omega
  simp only [codeOf, Tryz.f18, sub, go_seq, go_region, opsSeq_step, opsSeq_guard, guardStep_true, guardStep_false, guardVal, opsSeq_nil, afterStep_some, afterStep_none, stepC, kindOf, quietC, evC, Nat.reduceLT, Tr.get_set, if_true, if_false, Nat.reduceEqDiff, Option.map_some, Option.bind_some, List.getElem?_toArray, List.getElem?_cons_zero, List.getElem?_cons_succ, ofVal, decide_true, decide_false, BEq.rfl, andThen_normal, andThen_exit, andThen_ret, inBlock_normal, inBlock_ret, go_skip, go_exit, go_ret, loudStep, isCall, loudC, targetC, evs, evParts, mapO, List.nil_append, List.append_nil, List.cons_append, loadC, Heap.skip_get, Heap.get_put, Heap.skip_next, Heap.put_next, h7, h8, bin_lss, e1]
  rw [go_cond _ _ _ (v := false) (by simp only [evC, Tr.get_set, if_true])]
  simp only [Bool.false_eq_true, if_false, go_exit, andThen_exit]

theorem units_loop {l : CV} {rs : List (Nat × Nat × Nat)} (hr : rs.length ≤ 1000) {n : Nat} (hln : ∀ b off len cap, l = .slice b off len cap → b < n) :
    ∀ (k i : Nat) (env : Env) (H : Heap) (v : CV) (f : Nat), i + k = rs.length → env.get 3 = some v → env.get 6 = some l → env.get 7 = some (.int .i64 rs.length) → env.get 8 = some (.int .i64 i) → Has H 3 42 l (rs.map relCV) → HOk H → n ≤ H.next →
      Own H f 1 9 v ((namesOf (rs.take i)).map nm) → (v ≠ .nilSlice → n ≤ f) →
    ∃ env' v' H' f', go Tryz.prog X 24 (sub (codeOf Tryz.f18) [true,true,false,true,false]) env H = some (.exit 0, env', H') ∧ env'.get 3 = some v' ∧ Own H' f' 1 9 v' ((namesOf rs).map nm) ∧ HOk H' ∧ (v' ≠ .nilSlice → n ≤ f') ∧ Ext n H H' := by
  have hcode : sub (codeOf Tryz.f18) [true,true,false,true,false] = .loop (sub (codeOf Tryz.f18) [true,true,false,true,false,false]) := rfl
  intro k
  induction k with
  | zero =>
    intro i env H v f hik h3 h6 h7 h8 hl hk hnx hv hf
    have : i = rs.length := by omega
    subst this
    rw [hcode, go_loop, units_exit h7 h8, andThen_exit]
    rw [List.take_length] at hv
    exact ⟨_, v, H, f, rfl, by simp only [Tr.get_set, Nat.reduceEqDiff, if_false, h3], hv, hk, hf, Ext.refl _ _⟩
  | succ k ih =>
    intro i env H v f hik h3 h6 h7 h8 hl hk hnx hv hf
    obtain ⟨e4, v4, H4, f4, g4, d3, d6, d7, d8, hown, hok4, hf1, hf2, hext⟩ := units_body (X := X) h3 h6 h7 h8 hl (by omega) hr hv hk
    have hx := hext n hnx hf
    obtain ⟨e6, v6, H6, f6, g6, p3, p4, p5, p6, p7⟩ := ih (i + 1) e4 H4 v4 f4 (by omega) d3 d6 d7 d8 (hl.ext hx hln) hok4 (Nat.le_trans hnx hx.1) hown (fun _ => by
      by_cases hvn : v = .nilSlice
      · have := hf1 hvn; omega
      · rw [hf2 hvn]; exact hf hvn)
    refine ⟨e6, v6, H6, f6, ?_, p3, p4, p5, p6, hx.trans p7⟩
    rw [hcode, go_loop, g4, andThen_normal, ← hcode]
    exact g6
end Go.Z
