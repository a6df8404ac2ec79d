/- The hook meets what is wanted of it. The call in the world. The call answers true, and old memory stays. -/
import Derived.Test.YtmnhkbhdfkebmaaGreatDoorZ19
import Derived.Test.YtmnhkbhdfkebmaaGreatDoorRows
import Derived.ProofKit
import Derived.OpenShut
import Derived.Deep.Slices
import Derived.Shelf.Sort.Plain

set_option linter.unusedSimpArgs false
set_option linter.unusedVariables false

namespace Go.Z
open Go.K Go.Proofs
set_option linter.unusedSimpArgs false
set_option linter.unusedVariables false

theorem ext_none {f : Nat} (h1 : f ≠ 122) (h2 : f ≠ 137) (a : List CV) (H : Heap) : XE f a H = none := by
  simp only [XE, extC]
  split
  · rw [beq_f h1, beq_f h2]
  · rfl
theorem sort_none {f : Nat} (h : f ≠ 32) (a : List CV) (H : Heap) : sortC 32 f a H = none := by
  simp only [sortC, beq_f h]
theorem leaf_none {f : Nat} (h : [4, 5, 14, 28, 32, 77].contains f = false) (a : List CV) (H : Heap) : leaf f a H = none := by
  simp only [leaf, plainC, h, Bool.false_and]
theorem xz_none {f : Nat} (h1 : f ≠ 122) (h2 : f ≠ 137) (h3 : f ≠ 32) (h : [4, 5, 14, 28, 32, 77].contains f = false) (a : List CV) (H : Heap) : XZ f a H = none := by
  rw [XZ, orC_right (ext_none h1 h2 a H), orC_right (sort_none h3 a H), leaf_none h]
theorem xz_leaf {f : Nat} {args : List CV} {r : CV} (h1 : f ≠ 122) (h2 : f ≠ 137) (hs : ∀ H, sortC 32 f args H = none) (hf : [4, 5, 14, 28, 32, 77].contains f = true) (ha : CV.flats args = true) (hr : r.flat = true) (h : (ev f args).map (·.1) = some r) (H : Heap) : calls Tryz.prog XZ f args H = some (r, H) := by
  apply calls_hook
  rw [XZ, orC_right (ext_none h1 h2 args H), orC_right (hs H)]
  exact plainC_eq H hf ha hr h

theorem knwZ : Knw XZ := by
  constructor
  · intro H
    refine xz_leaf (by decide) (by decide) (sort_none (by decide) _) (by decide) rfl rfl ?_ H
    have h := e4
    revert h
    cases ev 4 [] with
    | none => intro h; cases h
    | some x =>
      obtain ⟨c, G⟩ := x
      intro h
      unfold isTrue at h
      split at h
      · rename_i e; injection e with e; injection e with e _; rw [e]; rfl
      · cases h
  · intro H
    refine xz_leaf (by decide) (by decide) (sort_none (by decide) _) (by decide) rfl rfl ?_ H
    have h := e5
    revert h
    cases ev 5 [] with
    | none => intro h; cases h
    | some x =>
      obtain ⟨c, G⟩ := x
      intro h
      unfold isTrue at h
      split at h
      · rename_i e; injection e with e; injection e with e _; rw [e]; rfl
      · cases h

theorem unitZ (c : Nat) (H : Heap) (hc : c < 256) : calls Tryz.prog XZ 14 [.int .u8 c] H = some (nm (c % 8), H) := by
  refine xz_leaf (by decide) (by decide) (sort_none (by decide) _) (by decide) rfl rfl ?_ H
  have h := List.all_eq_true.1 e14 c (List.mem_range.2 hc)
  revert h
  cases ev 14 [.int .u8 (c : Nat)] with
  | none => intro h; cases h
  | some x =>
    obtain ⟨v, G⟩ := x
    intro h
    unfold isStr at h
    split at h
    · rename_i s _ e
      injection e with e; injection e with e _; subst e
      have h' := beq_iff_eq.1 h
      rw [Option.map_some, nm]
      congr 2
      obtain ⟨⟨l⟩⟩ := s
      simp only at h'
      rw [h']
    · cases h

theorem checkZ : CheckOK XZ := by
  intro r H hr
  obtain ⟨h1, h2, h3, h4, h5⟩ := hr
  refine xz_leaf (by decide) (by decide) (sort_none (by decide) _) (by decide) rfl rfl ?_ H
  have h := List.all_eq_true.1 (List.all_eq_true.1 (List.all_eq_true.1 e28 (r.1 - 1) (List.mem_range.2 (by omega))) r.2.1 (List.mem_range.2 h3)) r.2.2 (List.mem_range.2 h4)
  rw [beq_f h5, Bool.false_or, show r.1 - 1 + 1 = r.1 by omega] at h
  have hrel : relCV r = .agg [.int .i64 ((r.1 : Nat) : Int), .str ⟨#[UInt8.ofNat (97 + r.2.1)]⟩, .str ⟨#[UInt8.ofNat (97 + r.2.2)]⟩] := rfl
  rw [hrel]
  revert h
  cases ev 28 [.agg [.int .i64 ((r.1 : Nat) : Int), .str ⟨#[UInt8.ofNat (97 + r.2.1)]⟩, .str ⟨#[UInt8.ofNat (97 + r.2.2)]⟩]] with
  | none => intro h; cases h
  | some x =>
    obtain ⟨v, G⟩ := x
    intro h
    unfold isInt at h
    split at h
    · rename_i e
      injection e with e; injection e with e _; subst e
      rw [beq_iff_eq.1 h]; rfl
    · cases h

theorem mulZ : MulOK XZ := by
  intro n H hn
  refine xz_leaf (by decide) (by decide) (sort_none (by decide) _) (by decide) rfl rfl ?_ H
  have h := List.all_eq_true.1 e77 n (List.mem_range.2 (by omega))
  revert h
  cases ev 77 [.int .u64 1, .int .u64 ((n : Nat) : Int)] with
  | none => intro h; cases h
  | some x =>
    obtain ⟨v, G⟩ := x
    intro h
    unfold isPair at h
    split at h
    · rename_i e
      injection e with e; injection e with e _; subst e
      simp only [Bool.and_eq_true, beq_iff_eq] at h
      rw [h.1, h.2]; rfl
    · cases h

theorem sort_nil (H : Heap) : calls Tryz.prog XZ 32 [.nilSlice] H = some (.tuple [], H) := by
  refine xz_leaf (by decide) (by decide) (fun _ => rfl) (by decide) rfl rfl ?_ H
  have h := e32
  revert h
  cases ev 32 [.nilSlice] with
  | none => intro h; cases h
  | some x =>
    obtain ⟨v, G⟩ := x
    intro h
    unfold isUnit at h
    split at h
    · rename_i e; injection e with e; injection e with e _; rw [e]; rfl
    · cases h

abbrev nb (n : Nat) : List UInt8 := [UInt8.ofNat (97 + n)]
theorem nb_le {a b : Nat} (ha : a < 100) (hb : b < 100) : decide (nb a ≤ nb b) = decide (a ≤ b) := by
  have key : (nb a ≤ nb b) ↔ (a ≤ b) := by
    have h1 : (UInt8.ofNat (97 + a)).toNat = 97 + a := by rw [UInt8.toNat_ofNat']; omega
    have h2 : (UInt8.ofNat (97 + b)).toNat = 97 + b := by rw [UInt8.toNat_ofNat']; omega
    rw [List.cons_le_cons_iff, UInt8.lt_iff_toNat_lt, h1, h2]
    constructor
    · rintro (h | ⟨h, _⟩)
      · omega
      · have := congrArg UInt8.toNat h
        rw [h1, h2] at this; omega
    · intro h
      rcases Nat.lt_or_eq_of_le h with h | h
      · exact .inl (by omega)
      · exact .inr ⟨by rw [h], List.le_refl _⟩
  by_cases h : a ≤ b
  · rw [decide_eq_true h, decide_eq_true (key.2 h)]
  · rw [decide_eq_false h, decide_eq_false (fun h' => h (key.1 h'))]
theorem strs_names : ∀ ns : List Nat, strsC (ns.map nm) = some (ns.map nb)
  | [] => rfl
  | a :: t => by simp only [List.map_cons, nm, strsC]; rw [show strsC (List.map nm t) = some (t.map nb) from strs_names t]; rfl
theorem names_flat : ∀ ns : List Nat, (ns.map nm).flatMap CV.cells = ns.map nm
  | [] => rfl
  | a :: t => by simp only [List.map_cons, List.flatMap_cons, nm_cells, names_flat t]; rfl

theorem sortZ : SortOK XZ := by
  intro ns H f v hown hlt hl hk
  rcases hown.2 with ⟨rfl, hn⟩ | ⟨b, p, rfl, hne, hb, hfb, hg⟩
  · have hn0 : ns = [] := by simpa using hn
    subst hn0
    exact ⟨H, [], sort_nil H, .refl _, List.Pairwise.nil, hown, hk, fun n _ => Ext.refl _ _⟩
  · rw [names_flat, List.length_map] at *
    obtain ⟨ms, hms⟩ : ∃ ms, ms = ns.mergeSort (fun a b => decide (a ≤ b)) := ⟨_, rfl⟩
    have hperm : ms.Perm ns := by rw [hms]; exact List.mergeSort_perm _ _
    have hsort : (ns.map nb).mergeSort (fun x y => decide (x ≤ y)) = ms.map nb := by
      rw [hms]
      exact (List.map_mergeSort (fun a ha b hb => (nb_le (hlt a ha) (hlt b hb)).symm)).symm
    have hstr : (ms.map nb).map strC = ms.map nm := by
      rw [List.map_map]; rfl
    have hX : XZ 32 [.slice b 0 ns.length (.tail 1)] H = some (.tuple [], H.upd b (.cells (ms.map nm) 9 (some (f, p))) 0) := by
      rw [XZ, orC_right (ext_none (by decide) (by decide) _ H)]
      apply orC_left
      simp only [sortC, beq_t rfl, hg, strs_names, List.length_map, blt_t (show ns.length < 4611686018427387904 by omega), Bool.and_self, hsort, hstr]
    refine ⟨_, ms, calls_hook hX, hperm, ?_, ⟨?_, .inr ⟨b, p, ?_, ?_, ?_, hfb, ?_⟩⟩, Hok.upd hg hk, fun n hn => ?_⟩
    · rw [hms]
      have := List.pairwise_mergeSort (le := fun a b : Nat => decide (a ≤ b)) (fun a b c h1 h2 => by simp at *; omega) (fun a b => by simp; omega) ns
      exact this.imp fun h => by simpa using h
    · intro x hx
      obtain ⟨m, _, rfl⟩ := List.mem_map.1 hx
      rfl
    · rw [List.length_map, hperm.length_eq]
    · intro e
      have := congrArg List.length e
      rw [List.length_map, hperm.length_eq] at this
      exact hne (by simpa using this)
    · rw [Heap.upd_next]; exact hb
    · rw [names_flat]; exact upd_self
    · have hn' := hn (by intro e; cases e)
      exact Ext.upd hk hg (by omega) (fun g q e => by simp only [Option.some.injEq, Prod.mk.injEq] at e; omega)

theorem qxZ : QX XZ := ⟨xz_none (by decide) (by decide) (by decide) (by decide), xz_none (by decide) (by decide) (by decide) (by decide), xz_none (by decide) (by decide) (by decide) (by decide), xz_none (by decide) (by decide) (by decide) (by decide), xz_none (by decide) (by decide) (by decide) (by decide), xz_none (by decide) (by decide) (by decide) (by decide),
  xz_none (by decide) (by decide) (by decide) (by decide), xz_none (by decide) (by decide) (by decide) (by decide), xz_none (by decide) (by decide) (by decide) (by decide)⟩
theorem zxZ : ZX XZ where
  q := qxZ
  x6 := xz_none (by decide) (by decide) (by decide) (by decide)
  x7 := xz_none (by decide) (by decide) (by decide) (by decide)
  x8 := xz_none (by decide) (by decide) (by decide) (by decide)
  x9 := xz_none (by decide) (by decide) (by decide) (by decide)
  x10 := xz_none (by decide) (by decide) (by decide) (by decide)
  x11 := xz_none (by decide) (by decide) (by decide) (by decide)
  x15 := xz_none (by decide) (by decide) (by decide) (by decide)
  x16 := xz_none (by decide) (by decide) (by decide) (by decide)
  x17 := xz_none (by decide) (by decide) (by decide) (by decide)
  x18 := xz_none (by decide) (by decide) (by decide) (by decide)
  x19 := xz_none (by decide) (by decide) (by decide) (by decide)
  x20 := xz_none (by decide) (by decide) (by decide) (by decide)
  x21 := xz_none (by decide) (by decide) (by decide) (by decide)
  x22 := xz_none (by decide) (by decide) (by decide) (by decide)
  x23 := xz_none (by decide) (by decide) (by decide) (by decide)
  x29 := xz_none (by decide) (by decide) (by decide) (by decide)
  x30 := xz_none (by decide) (by decide) (by decide) (by decide)
  x31 := xz_none (by decide) (by decide) (by decide) (by decide)
  x33 := xz_none (by decide) (by decide) (by decide) (by decide)
  x34 := xz_none (by decide) (by decide) (by decide) (by decide)
  x35 := xz_none (by decide) (by decide) (by decide) (by decide)
  x59 := xz_none (by decide) (by decide) (by decide) (by decide)
  unit := unitZ
  sort := sortZ
  check := checkZ
  mul := mulZ
end Go.Z

namespace Go.Proofs
/-- Where the library's sort of texts lies in this program (in plain words what the kit's command lays). -/
def Tryz.lays190_ren : Go.Shelf.Ren := ⟨fun | 190 => 32 | 125 => 61 | 258 => 60 | 128 => 87 | 129 => 88 | 302 => 78 | 303 => 79 | 304 => 80 | 305 => 81 | 306 => 82 | 307 => 83 | 308 => 84 | 309 => 85 | 310 => 86 | 333 => 115 | 329 => 116 | 330 => 117 | 334 => 118 | 335 => 119 | 336 => 66 | 344 => 133 | n => n, fun | 31 => 30 | 9 => 9 | 3 => 3 | 46 => 117 | 0 => 0 | 51 => 110 | 53 => 142 | 4 => 4 | 183 => 134 | 182 => 133 | 131 => 53 | 5 => 5 | 218 => 160 | 222 => 164 | 228 => 175 | 229 => 176 | n => n, fun | n => n⟩
theorem Tryz.lays190 : Go.Proofs.Lays.n190 Tryz.prog Tryz.lays190_ren where
  mixed := by kernel_rfl
  f125 := Tryz.func61.trans (congrArg some (by kernel_rfl))
  f128 := Tryz.func87.trans (congrArg some (by kernel_rfl))
  f129 := Tryz.func88.trans (congrArg some (by kernel_rfl))
  f190 := Tryz.func32.trans (congrArg some (by kernel_rfl))
  f258 := Tryz.func60.trans (congrArg some (by kernel_rfl))
  f302 := Tryz.func78.trans (congrArg some (by kernel_rfl))
  f303 := Tryz.func79.trans (congrArg some (by kernel_rfl))
  f304 := Tryz.func80.trans (congrArg some (by kernel_rfl))
  f305 := Tryz.func81.trans (congrArg some (by kernel_rfl))
  f306 := Tryz.func82.trans (congrArg some (by kernel_rfl))
  f307 := Tryz.func83.trans (congrArg some (by kernel_rfl))
  f308 := Tryz.func84.trans (congrArg some (by kernel_rfl))
  f309 := Tryz.func85.trans (congrArg some (by kernel_rfl))
  f310 := Tryz.func86.trans (congrArg some (by kernel_rfl))
  f329 := Tryz.func116.trans (congrArg some (by kernel_rfl))
  f330 := Tryz.func117.trans (congrArg some (by kernel_rfl))
  f333 := Tryz.func115.trans (congrArg some (by kernel_rfl))
  f334 := Tryz.func118.trans (congrArg some (by kernel_rfl))
  f335 := Tryz.func119.trans (congrArg some (by kernel_rfl))
  f336 := Tryz.func66.trans (congrArg some (by kernel_rfl))
  f344 := Tryz.func133.trans (congrArg some (by kernel_rfl))
  t0 := Tryz.underlying0
  a0 := Tryz.isAgg0
  z0 := Tryz.sizeOf0
  v0 := Tryz.zeroValue0
  t3 := Tryz.underlying3
  a3 := Tryz.isAgg3
  z3 := Tryz.sizeOf3
  v3 := Tryz.zeroValue3
  t4 := Tryz.underlying4
  a4 := Tryz.isAgg4
  z4 := Tryz.sizeOf4
  v4 := Tryz.zeroValue4
  t5 := Tryz.underlying5
  a5 := Tryz.isAgg5
  z5 := Tryz.sizeOf5
  v5 := Tryz.zeroValue5
  t9 := Tryz.underlying9
  a9 := Tryz.isAgg9
  z9 := Tryz.sizeOf9
  v9 := Tryz.zeroValue9
  t31 := Tryz.underlying30
  a31 := Tryz.isAgg30
  z31 := Tryz.sizeOf30
  v31 := Tryz.zeroValue30
  t46 := Tryz.underlying117
  a46 := Tryz.isAgg117
  z46 := Tryz.sizeOf117
  v46 := Tryz.zeroValue117
  t51 := Tryz.underlying110
  a51 := Tryz.isAgg110
  z51 := Tryz.sizeOf110
  v51 := Tryz.zeroValue110
  t53 := Tryz.underlying142
  a53 := Tryz.isAgg142
  z53 := Tryz.sizeOf142
  v53 := Tryz.zeroValue142
  t131 := Tryz.underlying53
  a131 := Tryz.isAgg53
  z131 := Tryz.sizeOf53
  v131 := Tryz.zeroValue53
  t182 := Tryz.underlying133
  a182 := Tryz.isAgg133
  z182 := Tryz.sizeOf133
  v182 := Tryz.zeroValue133
  t183 := Tryz.underlying134
  a183 := Tryz.isAgg134
  z183 := Tryz.sizeOf134
  v183 := Tryz.zeroValue134
  t218 := Tryz.underlying160
  a218 := Tryz.isAgg160
  z218 := Tryz.sizeOf160
  v218 := Tryz.zeroValue160
  t222 := Tryz.underlying164
  a222 := Tryz.isAgg164
  z222 := Tryz.sizeOf164
  v222 := Tryz.zeroValue164
  t228 := Tryz.underlying175
  a228 := Tryz.isAgg175
  z228 := Tryz.sizeOf175
  v228 := Tryz.zeroValue175
  t229 := Tryz.underlying176
  a229 := Tryz.isAgg176
  z229 := Tryz.sizeOf176
  v229 := Tryz.zeroValue176
end Go.Proofs
namespace Go.Z
open Go.K Go.Proofs
set_option linter.unusedSimpArgs false
set_option linter.unusedVariables false
set_option maxRecDepth 10000

theorem sortsZ : SortsStrings Tryz.prog 32 := fun blk off cap ss w h1 h2 h3 => Any.slices_Sort_string Tryz.lays190 blk off cap ss w h1 h2 h3
theorem mixedZ : Tryz.prog.follows .mixedOrders = true := by kernel_rfl
theorem ext122 : ExtIs Tryz.prog 122 Extern.BytealgCount.count := ⟨Tryz.f122, Tryz.func122, by kernel_rfl, by kernel_rfl, by kernel_rfl, by kernel_rfl⟩
theorem ext137 : ExtIs Tryz.prog 137 Extern.BytealgIndexByte.indexByte := ⟨Tryz.f137, Tryz.func137, by kernel_rfl, by kernel_rfl, by kernel_rfl, by kernel_rfl⟩
theorem xeOK : CallOK Tryz.prog XE := extC_ok ext122 ext137
theorem xzOK : CallOK Tryz.prog XZ :=
  orC_ok xeOK (orC_ok (sortC_ok Tryz.func32 (by kernel_rfl) (by kernel_rfl) sortsZ) (plainC_ok (call_sound xeOK mixedZ 3000) _))

open Go.ChangeShapes Go.WideShapes
section
variable {H : Type} {enc : TypeId × Value → H}

theorem cell39 : Tryz.prog.cellsOf 39 = 3 := by kernel_rfl
theorem cell5 : Tryz.prog.cellsOf 5 = 1 := by kernel_rfl

/-- An element of the argument: three letters. -/
theorem open_seen {W : World} {sp : Nat → Bool} {n : Nat} {cs : List Value} {x : DataW H × List MemPlace} (h : DataW.trod enc Tryz.prog W 0 sp true n 39 cs = some x) : ∃ s : Nat × Nat × Nat, (s.1 < 256 ∧ s.2.1 < 256 ∧ s.2.2 < 256) ∧ cs = [.int .u8 s.1, .int .u8 s.2.1, .int .u8 s.2.2] := by
  obtain ⟨xs, m, _, _, hl, hxl, hel⟩ := DataW.trod_array u39 h
  rw [cell39] at hl
  simp only [cell5, Nat.mul_one] at hel
  have one : ∀ i (hi : i < 3), ∃ k : Nat, k < 256 ∧ cs[i]'(by omega) = .int .u8 k := by
    intro i hi
    have hE := hel i hi
    rw [List.getElem?_eq_getElem (by omega)] at hE
    obtain ⟨z, e1, _, hw⟩ := DataW.trod_int u5 hE
    have hd : (cs.drop i).take 1 = [cs[i]'(by omega)] := by
      rw [List.drop_eq_getElem_cons (by omega)]; rfl
    rw [hd] at e1
    injection e1 with e1 _
    simp only [Lit.wf, Bool.and_eq_true, decide_eq_true_eq] at hw
    have hlo : (0 : Int) ≤ z := hw.1
    have hhi : z ≤ 255 := hw.2
    refine ⟨z.toNat, by omega, ?_⟩
    rw [e1, show ((z.toNat : Nat) : Int) = z by omega]
  obtain ⟨a, ha, ea⟩ := one 0 (by omega)
  obtain ⟨b, hb, eb⟩ := one 1 (by omega)
  obtain ⟨c, hc, ec⟩ := one 2 (by omega)
  refine ⟨(a, b, c), ⟨ha, hb, hc⟩, ?_⟩
  match cs, hl, ea, eb, ec with
  | [x, y, z], _, ea, eb, ec => simp only [List.getElem_cons_zero, List.getElem_cons_succ] at ea eb ec; rw [ea, eb, ec]

def sv (s : Nat × Nat × Nat) : List Value := [.int .u8 s.1, .int .u8 s.2.1, .int .u8 s.2.2]
theorem row_cells : ∀ (ss : List (Nat × Nat × Nat)) (k : Nat) (L : List Value), (∀ i (hi : i < ss.length) j, j < 3 → L[k + i * 3 + j]? = (sv ss[i])[j]?) → ∃ rest, L.drop k = ss.flatMap sv ++ rest
  | [], k, L, _ => ⟨L.drop k, rfl⟩
  | s :: t, k, L, h => by
    obtain ⟨rest, hr⟩ := row_cells t (k + 3) L (fun i hi j hj => by
      have := h (i + 1) (by simpa using hi) j hj
      rw [show k + (i + 1) * 3 + j = k + 3 + i * 3 + j by omega] at this
      simpa using this)
    refine ⟨rest, ?_⟩
    have e : ∀ j v, L[k + j]? = some v → L.drop (k + j) = v :: L.drop (k + j + 1) := fun j v hv => by
      obtain ⟨hlt, hv⟩ := List.getElem?_eq_some_iff.1 hv
      rw [List.drop_eq_getElem_cons hlt, hv]
    have a0 := h 0 (by simp) 0 (by omega)
    have a1 := h 0 (by simp) 1 (by omega)
    have a2 := h 0 (by simp) 2 (by omega)
    simp only [Nat.zero_mul, Nat.add_zero, sv, List.getElem_cons_zero, List.getElem?_cons_zero, List.getElem?_cons_succ] at a0 a1 a2
    have b0 := e 0 _ a0
    have b1 := e 1 _ a1
    have b2 := e 2 _ a2
    simp only [Nat.add_zero, Nat.add_assoc, Nat.reduceAdd] at b0 b1 b2
    rw [b0, b1, b2, hr, List.flatMap_cons]
    rfl
theorem seen_vals (η : Eta) : ∀ ss : List (Nat × Nat × Nat), CV.vals η (ss.flatMap fun s => (seenCV s).cells) = some (ss.flatMap sv)
  | [] => rfl
  | s :: t => by
    have ih := seen_vals η t
    simp only [List.flatMap_cons, seenCV, CV.cells, List.cons_append, List.nil_append, CV.vals, CV.val, Option.bind_some] at ih ⊢
    rw [ih]
    rfl

/-- The argument in clean memory: it is only read. -/
theorem arg_look {W : World} {base : Nat} {v0 : Value} {d0 : DataW H} {p0 : List MemPlace} (hok : Value.okWide Tryz.prog W .any base 22 v0) (h0 : DataW.Trod enc Tryz.prog W 0 (fun _ => true) true 22 v0 d0 p0) :
    ∃ (η : Eta) (G : Heap) (l : CV) (ss : List (Nat × Nat × Nat)), HRel η G W ∧ CV.vals η [l] = some [v0] ∧ Look G 3 l (ss.map seenCV) ∧ HOk G ∧ (∀ s ∈ ss, s.1 < 256 ∧ s.2.1 < 256 ∧ s.2.2 < 256) ∧ ∀ b o, G.get b = some o → o.isLook = true := by
  have hs : v0 = .slice none 0 0 ∨ ∃ a len cap, v0 = .slice (some a) len cap ∧ W.has Tryz.prog .any base a 39 cap := by
    unfold Value.okWide at hok
    rw [u22] at hok
    simp only at hok
    unfold Cell.okWide at hok
    rw [u22] at hok
    simp only at hok
    unfold Cell.ok at hok
    rw [u22] at hok
    cases v0 with
    | slice addr len cap =>
      cases addr with
      | none =>
        left
        revert hok
        cases len <;> cases cap <;> simp
      | some a => exact .inr ⟨a, len, cap, rfl, hok.2.2⟩
    | _ => exact hok.elim
  obtain ⟨fuel, h0⟩ := h0
  rcases hs with rfl | ⟨a, len, cap, rfl, hhas⟩
  · exact ⟨fun _ => none, noHeap, .nilSlice, [], noHeap_rel W, rfl, ⟨by simp, .inl ⟨rfl, rfl⟩⟩, ⟨fun f b hb => (by simp [noHeap, Heap.mem, Tr.get_nil] at hb), fun b o f p h => (by simp [noHeap, Heap.get, Tr.get_nil] at h)⟩, fun s hs => (by cases hs), fun b o h => (by simp [noHeap, Heap.get, Tr.get_nil] at h)⟩
  rcases Go.Deep.open_slice u22 h0 with ⟨hcs, _⟩ | ⟨a', len', cap', m, n, D, Pl, hcs, _, hlc, _, hm, _, hel⟩
  · simp [Value.cells] at hcs
  have hcs' : a' = a ∧ len' = len ∧ cap' = cap := by
    simp [Value.cells] at hcs
    exact ⟨hcs.1.symm, hcs.2.1.symm, hcs.2.2.symm⟩
  obtain ⟨rfl, rfl, rfl⟩ := hcs'
  obtain ⟨_, hspot, row, cells, hshape, _⟩ := hhas
  obtain ⟨blk, off, spot⟩ := a'
  simp only at hspot
  subst hspot
  simp only [if_true] at hm
  -- the block in the world
  obtain ⟨c, fr, hc⟩ : ∃ c fr, W.heap[blk]? = some (.cells c row fr) := by
    unfold World.shape? at hshape
    split at hshape
    · rename_i c elem fr hc
      simp only [Option.some.injEq, Prod.mk.injEq] at hshape
      exact ⟨c, fr, by rw [← hshape.1]; exact hc⟩
    · cases hshape
  -- its elements
  have hseen : ∀ i, i < len' → ∃ s : Nat × Nat × Nat, (s.1 < 256 ∧ s.2.1 < 256 ∧ s.2.2 < 256) ∧ ∀ j (hj : j < 3), c[off + i * 3 + j]? = [Value.int .u8 s.1, .int .u8 s.2.1, .int .u8 s.2.2][j]? := by
    intro i hi
    obtain ⟨cs', h1, h2⟩ := hel i (by omega)
    obtain ⟨s, hs, rfl⟩ := open_seen h2
    rw [cell39] at h1
    obtain ⟨_, _, h3⟩ := World.cells?_some h1
    refine ⟨s, hs, fun j hj => ?_⟩
    have := h3 j hj
    rw [Addr.add_mk, Addr.add_mk] at this
    simp only [World.cell?, hc, Option.isSome_none, Bool.false_eq_true, if_false] at this
    exact this
  obtain ⟨f, hf⟩ := Go.Deep.choose_lt hseen
  obtain ⟨ss, hss⟩ : ∃ ss : List (Nat × Nat × Nat), ss = (List.range len').map f := ⟨_, rfl⟩
  have hsl : ss.length = len' := by rw [hss]; simp
  have hsi : ∀ i (hi : i < ss.length), ss[i] = f i := fun i hi => by simp [hss]
  have hlt : ∀ s ∈ ss, s.1 < 256 ∧ s.2.1 < 256 ∧ s.2.2 < 256 := by
    intro s hs
    obtain ⟨i, hi, rfl⟩ := List.mem_iff_getElem.1 hs
    rw [hsi i hi]
    exact (hf i (by omega)).1
  have hmap : (ss.map seenCV).flatMap CV.cells = ss.flatMap fun s => (seenCV s).cells := by rw [List.flatMap_map]
  -- the memory with this one block
  have key : ∀ (cs : List CV) (base' o : Nat), base' + o = off → (∃ pre l rest, CV.vals (fun k => if k = 0 then some (⟨blk, base', 0⟩ : Go.K.Loc) else none) cs = some l ∧ c = (pre ++ l ++ rest).toArray ∧ pre.length = base') →
      (ss.map seenCV = [] ∨ o + (ss.map seenCV).length * 3 ≤ cs.length) → (cs.drop o).take ((ss.map seenCV).length * 3) = (ss.map seenCV).flatMap CV.cells →
      ∃ (η : Eta) (G : Heap) (l : CV) (ss : List (Nat × Nat × Nat)), HRel η G W ∧ CV.vals η [l] = some [Value.slice (some ⟨blk, off, none⟩) len' cap'] ∧ Look G 3 l (ss.map seenCV) ∧ HOk G ∧ (∀ s ∈ ss, s.1 < 256 ∧ s.2.1 < 256 ∧ s.2.2 < 256) ∧ ∀ b o, G.get b = some o → o.isLook = true := by
    rintro cs base' o hbo ⟨pre, l, rest, hl, hcc, hpre⟩ h4 h5
    have hget : ∀ b ob, (⟨1, Tr.nil.set 0 (CObj.look cs), .nil⟩ : Heap).get b = some ob → b = 0 ∧ ob = .look cs := by
      intro b ob h
      simp only [Heap.get, Tr.get_set] at h
      split at h
      · rename_i e; injection h with h; exact ⟨e, h.symm⟩
      · simp [Tr.get_nil] at h
    refine ⟨fun k => if k = 0 then some ⟨blk, base', 0⟩ else none, ⟨1, Tr.nil.set 0 (CObj.look cs), .nil⟩, .slice 0 o ss.length (.exact cap'), ss, ⟨fun b ob hb => ?_, fun b x h => ?_, fun b b' ob ob' x x' hb hb' _ _ _ hne => ?_, fun b ob f p hb hf => ?_, fun b ob f p hb hf => ?_⟩, ?_, ⟨fun x hx => ?_, .inr ⟨0, o, cap', cs, by rw [List.length_map], by show 0 < 1; omega, by simp [Heap.get, Tr.get_set], h4, h5⟩⟩, ⟨fun f b hb => ?_, fun b ob f p hb hf => ?_⟩, hlt, fun b ob hb => ?_⟩
    · obtain ⟨rfl, rfl⟩ := hget b ob hb
      exact ⟨⟨blk, base', 0⟩, by simp, pre, l, rest, row, fr, hl, by rw [hc, hcc], hpre⟩
    · show b < 1
      by_cases e : b = 0
      · omega
      · rw [if_neg e] at h; cases h
    · exact absurd ((hget b ob hb).1.trans (hget b' ob' hb').1.symm) hne
    · rw [(hget b ob hb).2] at hf; cases hf
    · rw [(hget b ob hb).2] at hf; cases hf
    · simp [CV.vals, CV.val, hbo, hsl]
    · obtain ⟨s, _, rfl⟩ := List.mem_map.1 hx
      rfl
    · simp [Heap.mem, Tr.get_nil] at hb
    · rw [(hget b ob hb).2] at hf; cases hf
    · rw [(hget b ob hb).2]; rfl
  by_cases h0' : ss = []
  · subst h0'
    exact key [] 0 off (by omega) ⟨[], [], c.toList, rfl, by simp, rfl⟩ (.inl rfl) (by simp)
  · have hpos : 0 < ss.length := List.length_pos_iff.2 h0'
    obtain ⟨rest, hr⟩ := row_cells ss off c.toList (fun i hi j hj => by
      have := (hf i (by omega)).2 j hj
      rw [Array.getElem?_toList, this, hsi i hi]; rfl)
    have hoff : off < c.size := by
      have := (hf 0 (by omega)).2 0 (by omega)
      simp only [Nat.zero_mul, Nat.add_zero, List.getElem?_cons_zero] at this
      exact (Array.getElem?_eq_some_iff.1 this).1
    refine key (ss.flatMap fun s => (seenCV s).cells) off 0 (by omega) ⟨c.toList.take off, ss.flatMap sv, rest, seen_vals _ ss, ?_, by rw [List.length_take, Array.length_toList]; omega⟩ (.inr ?_) ?_
    · rw [List.append_assoc, ← hr, List.take_append_drop]
    · have := flat_length (sz := 3) (vs := ss.map seenCV) (fun x hx => by obtain ⟨s, _, rfl⟩ := List.mem_map.1 hx; rfl)
      rw [hmap] at this
      omega
    · have := flat_length (sz := 3) (vs := ss.map seenCV) (fun x hx => by obtain ⟨s, _, rfl⟩ := List.mem_map.1 hx; rfl)
      rw [hmap] at this ⊢
      rw [List.drop_zero, List.take_of_length_le (by omega)]
end
end Go.Z

namespace Go.Z
open Go.K Go.Proofs
set_option linter.unusedSimpArgs false
set_option linter.unusedVariables false
set_option maxRecDepth 100000
open Go.ChangeShapes Go.WideShapes Go.RowKit

theorem enter3 (v0 : Value) (W : World) : (callFunc 3 #[v0]).run Tryz.prog W = .ok (.enter 3 #[v0]) W := by
  have hn : (Tryz.f3.name == "runtime.NumGoroutine") = false := by kernel_rfl
  have hb : Tryz.f3.body.isNone = false := by kernel_rfl
  simp only [callFunc, Sem.run_bind, run_program, Result.andThen_ok, Tryz.func3, hn, hb, Bool.false_eq_true, if_false, Sem.run_pure]

theorem call_true {H : Type} {enc : TypeId × Value → H} {W : World} {base : Nat} {v0 : Value} {d0 : DataW H} {p0 : List MemPlace} (hok : Value.okWide Tryz.prog W .any base 22 v0) (h0 : DataW.Trod enc Tryz.prog W 0 (fun _ => true) true 22 v0 d0 p0) :
    Calls Tryz.prog 3 #[v0] W fun e W' => e = .returned (.bool true) ∧ Below W.heap.size W W' := by
  obtain ⟨η, G, l, ss, hrel, hv, hl, hk, hlt, hlook⟩ := arg_look hok h0
  have hx3 : ∀ a H, XZ 3 a H = none := xz_none (by decide) (by decide) (by decide) (by decide)
  obtain ⟨H', hcall⟩ : ∃ H', calls Tryz.prog XZ 3 [l] G = some (.bool true, H') := by
    by_cases hn : ss.length ≤ 8
    · obtain ⟨H', h, _⟩ := law_few hx3 zxZ knwZ hl hk hn hlt
      exact ⟨H', h⟩
    · exact ⟨G, law_many hx3 knwZ hl (by rw [List.length_map]; omega)⟩
  rcases (calls_ok xzOK mixedZ 3 [l] G _ _ hcall).2 η W [v0] hrel hv with ⟨_, h⟩ | ⟨v, w', h, _⟩
  · refine h.mono ?_
    rintro e W' ⟨η', v, rfl, hv', _, k⟩
    simp only [CV.val, Option.some.injEq] at hv'
    subst hv'
    exact ⟨rfl, k.os, k.tape, k.output, k.size, fun j hj => k.block j hj fun b o x ⟨hb, hlk⟩ _ => by rw [hlook b o hb] at hlk; cases hlk⟩
  · rw [enter3] at h
    cases h

end Go.Z
