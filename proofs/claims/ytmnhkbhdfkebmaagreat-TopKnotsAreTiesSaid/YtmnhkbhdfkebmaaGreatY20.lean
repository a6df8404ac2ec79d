/- The hooks meet what is wanted of them. The argument in clean memory. The call answers true, and old memory stays. -/
import Derived.Test.YtmnhkbhdfkebmaaGreatY19
import Derived.Shelf.Sort.Plain
import Derived.Test.YtmnhkbhdfkebmaaGreatRows
import Derived.ProofKit
import Derived.OpenShut
import Derived.Deep.Slices
import Derived.Deep.Strs

set_option linter.unusedSimpArgs false
set_option linter.unusedVariables false

namespace Go.Proofs
/-- Where the library's sort of texts lies in this program (in plain words what the kit's command lays). -/
def Tryz.lays190_ren : Go.Shelf.Ren := ⟨fun | 190 => 20 | 125 => 39 | 258 => 38 | 128 => 67 | 129 => 68 | 302 => 58 | 303 => 59 | 304 => 60 | 305 => 61 | 306 => 62 | 307 => 63 | 308 => 64 | 309 => 65 | 310 => 66 | 333 => 82 | 329 => 83 | 330 => 84 | 334 => 85 | 335 => 86 | 336 => 87 | 344 => 104 | n => n, fun | 31 => 27 | 9 => 9 | 3 => 3 | 46 => 84 | 0 => 0 | 51 => 114 | 53 => 116 | 4 => 4 | 183 => 108 | 182 => 107 | 131 => 54 | 5 => 5 | 218 => 132 | 222 => 136 | 228 => 153 | 229 => 154 | n => n, fun | n => n⟩
theorem Tryz.lays190 : Go.Proofs.Lays.n190 Tryz.prog Tryz.lays190_ren where
  mixed := by kernel_rfl
  f125 := Tryz.func39.trans (congrArg some (by kernel_rfl))
  f128 := Tryz.func67.trans (congrArg some (by kernel_rfl))
  f129 := Tryz.func68.trans (congrArg some (by kernel_rfl))
  f190 := Tryz.func20.trans (congrArg some (by kernel_rfl))
  f258 := Tryz.func38.trans (congrArg some (by kernel_rfl))
  f302 := Tryz.func58.trans (congrArg some (by kernel_rfl))
  f303 := Tryz.func59.trans (congrArg some (by kernel_rfl))
  f304 := Tryz.func60.trans (congrArg some (by kernel_rfl))
  f305 := Tryz.func61.trans (congrArg some (by kernel_rfl))
  f306 := Tryz.func62.trans (congrArg some (by kernel_rfl))
  f307 := Tryz.func63.trans (congrArg some (by kernel_rfl))
  f308 := Tryz.func64.trans (congrArg some (by kernel_rfl))
  f309 := Tryz.func65.trans (congrArg some (by kernel_rfl))
  f310 := Tryz.func66.trans (congrArg some (by kernel_rfl))
  f329 := Tryz.func83.trans (congrArg some (by kernel_rfl))
  f330 := Tryz.func84.trans (congrArg some (by kernel_rfl))
  f333 := Tryz.func82.trans (congrArg some (by kernel_rfl))
  f334 := Tryz.func85.trans (congrArg some (by kernel_rfl))
  f335 := Tryz.func86.trans (congrArg some (by kernel_rfl))
  f336 := Tryz.func87.trans (congrArg some (by kernel_rfl))
  f344 := Tryz.func104.trans (congrArg some (by kernel_rfl))
  t0 := Tryz.underlying0
  a0 := Tryz.isAgg0
  z0 := Tryz.sizeOf0
  v0 := Tryz.zeroValue0
  t3 := Tryz.underlying3
  a3 := Tryz.isAgg3
  z3 := Tryz.sizeOf3
  v3 := Tryz.zeroValue3
  t4 := Tryz.underlying4
  a4 := Tryz.isAgg4
  z4 := Tryz.sizeOf4
  v4 := Tryz.zeroValue4
  t5 := Tryz.underlying5
  a5 := Tryz.isAgg5
  z5 := Tryz.sizeOf5
  v5 := Tryz.zeroValue5
  t9 := Tryz.underlying9
  a9 := Tryz.isAgg9
  z9 := Tryz.sizeOf9
  v9 := Tryz.zeroValue9
  t31 := Tryz.underlying27
  a31 := Tryz.isAgg27
  z31 := Tryz.sizeOf27
  v31 := Tryz.zeroValue27
  t46 := Tryz.underlying84
  a46 := Tryz.isAgg84
  z46 := Tryz.sizeOf84
  v46 := Tryz.zeroValue84
  t51 := Tryz.underlying114
  a51 := Tryz.isAgg114
  z51 := Tryz.sizeOf114
  v51 := Tryz.zeroValue114
  t53 := Tryz.underlying116
  a53 := Tryz.isAgg116
  z53 := Tryz.sizeOf116
  v53 := Tryz.zeroValue116
  t131 := Tryz.underlying54
  a131 := Tryz.isAgg54
  z131 := Tryz.sizeOf54
  v131 := Tryz.zeroValue54
  t182 := Tryz.underlying107
  a182 := Tryz.isAgg107
  z182 := Tryz.sizeOf107
  v182 := Tryz.zeroValue107
  t183 := Tryz.underlying108
  a183 := Tryz.isAgg108
  z183 := Tryz.sizeOf108
  v183 := Tryz.zeroValue108
  t218 := Tryz.underlying132
  a218 := Tryz.isAgg132
  z218 := Tryz.sizeOf132
  v218 := Tryz.zeroValue132
  t222 := Tryz.underlying136
  a222 := Tryz.isAgg136
  z222 := Tryz.sizeOf136
  v222 := Tryz.zeroValue136
  t228 := Tryz.underlying153
  a228 := Tryz.isAgg153
  z228 := Tryz.sizeOf153
  v228 := Tryz.zeroValue153
  t229 := Tryz.underlying154
  a229 := Tryz.isAgg154
  z229 := Tryz.sizeOf154
  v229 := Tryz.zeroValue154
end Go.Proofs
namespace Go.Y
open Go.K Go.Proofs
set_option linter.unusedSimpArgs false
set_option linter.unusedVariables false
set_option maxRecDepth 100000

theorem sortK_none {f : Nat} (h : f ≠ 20) (a : List CV) (H : Heap) : sortK 20 f a H = none := by
  simp only [sortK, beq_f h]
theorem leaf_none {f : Nat} (h : [15, 20, 35].contains f = false) (a : List CV) (H : Heap) : leafB f a H = none := by
  simp only [leafB, plainC, h, Bool.false_and]
theorem xb_none {f : Nat} (h1 : f ≠ 20) (h : [15, 20, 35].contains f = false) (a : List CV) (H : Heap) : XB f a H = none := by
  rw [XB, orC_right (sortK_none h1 a H), leaf_none h]
theorem xb_leaf {f : Nat} {args : List CV} {r : CV} (hs : ∀ H, sortK 20 f args H = none) (hf : [15, 20, 35].contains f = true) (ha : CV.flats args = true) (hr : r.flat = true) (h : (ev f args).map (·.1) = some r) (H : Heap) : XB f args H = some (r, H) := by
  rw [XB, orC_right (hs H)]
  exact plainC_eq H hf ha hr h

theorem nam15 (c : Nat) (H : Heap) (hc : c < 6) : XB 15 [.int .i64 c] H = some (nm c, H) := by
  refine xb_leaf (sortK_none (by decide) _) (by decide) rfl rfl ?_ H
  have h := List.all_eq_true.1 e15 c (List.mem_range.2 hc)
  revert h
  cases ev 15 [.int .i64 (c : Nat)] with
  | none => intro h; cases h
  | some x =>
    obtain ⟨v, G⟩ := x
    intro h
    unfold isStr at h
    split at h
    · rename_i s _ e
      injection e with e; injection e with e _; subst e
      have h' := beq_iff_eq.1 h
      rw [Option.map_some, nm]
      congr 2
      obtain ⟨⟨l⟩⟩ := s
      simp only at h'
      rw [h']
    · cases h

theorem check35 (r : Nat × Nat × Nat) (H : Heap) (hr : Right r) : XB 35 [relCV r] H = some (.int .i64 0, H) := by
  obtain ⟨h1, h2, h3, h4, h5⟩ := hr
  refine xb_leaf (sortK_none (by decide) _) (by decide) rfl rfl ?_ H
  have h := List.all_eq_true.1 (List.all_eq_true.1 (List.all_eq_true.1 e35 (r.1 - 1) (List.mem_range.2 (by omega))) r.2.1 (List.mem_range.2 h3)) r.2.2 (List.mem_range.2 h4)
  rw [beq_f h5, Bool.false_or, show r.1 - 1 + 1 = r.1 by omega] at h
  have hrel : relCV r = .agg [.int .i64 ((r.1 : Nat) : Int), .str ⟨#[UInt8.ofNat (65 + r.2.1)]⟩, .str ⟨#[UInt8.ofNat (65 + r.2.2)]⟩] := rfl
  rw [hrel]
  revert h
  cases ev 35 [.agg [.int .i64 ((r.1 : Nat) : Int), .str ⟨#[UInt8.ofNat (65 + r.2.1)]⟩, .str ⟨#[UInt8.ofNat (65 + r.2.2)]⟩]] with
  | none => intro h; cases h
  | some x =>
    obtain ⟨v, G⟩ := x
    intro h
    unfold isInt at h
    split at h
    · rename_i e
      injection e with e; injection e with e _; subst e
      rw [beq_iff_eq.1 h]; rfl
    · cases h
theorem checkB {X : CallFn} (h35 : ∀ a H, X 35 a H = XB 35 a H) : CheckOK X := fun r H hr => calls_hook (by rw [h35]; exact check35 r H hr)

theorem sort_nil {X : CallFn} (h20 : ∀ a H, X 20 a H = XB 20 a H) (H : Heap) : calls Tryz.prog X 20 [.nilSlice] H = some (.tuple [], H) := by
  refine calls_hook ?_
  rw [h20]
  refine xb_leaf (fun _ => rfl) (by decide) rfl rfl ?_ H
  have h := e20
  revert h
  cases ev 20 [.nilSlice] with
  | none => intro h; cases h
  | some x =>
    obtain ⟨v, G⟩ := x
    intro h
    unfold isUnit at h
    split at h
    · rename_i e; injection e with e; injection e with e _; rw [e]; rfl
    · cases h

abbrev nb (n : Nat) : List UInt8 := [UInt8.ofNat (65 + n)]
theorem nb_le {a b : Nat} (ha : a < 100) (hb : b < 100) : decide (nb a ≤ nb b) = decide (a ≤ b) := by
  have key : (nb a ≤ nb b) ↔ (a ≤ b) := by
    have h1 : (UInt8.ofNat (65 + a)).toNat = 65 + a := by rw [UInt8.toNat_ofNat']; omega
    have h2 : (UInt8.ofNat (65 + b)).toNat = 65 + b := by rw [UInt8.toNat_ofNat']; omega
    rw [List.cons_le_cons_iff, UInt8.lt_iff_toNat_lt, h1, h2]
    constructor
    · rintro (h | ⟨h, _⟩)
      · omega
      · have := congrArg UInt8.toNat h
        rw [h1, h2] at this; omega
    · intro h
      rcases Nat.lt_or_eq_of_le h with h | h
      · exact .inl (by omega)
      · exact .inr ⟨by rw [h], List.le_refl _⟩
  by_cases h : a ≤ b
  · rw [decide_eq_true h, decide_eq_true (key.2 h)]
  · rw [decide_eq_false h, decide_eq_false (fun h' => h (key.1 h'))]
theorem strs_names : ∀ ns : List Nat, strsC (ns.map nm) = some (ns.map nb)
  | [] => rfl
  | a :: t => by simp only [List.map_cons, nm, strsC]; rw [show strsC (List.map nm t) = some (t.map nb) from strs_names t]; rfl
theorem names_flat : ∀ ns : List Nat, (ns.map nm).flatMap CV.cells = ns.map nm
  | [] => rfl
  | a :: t => by simp only [List.map_cons, List.flatMap_cons, nm_cells, names_flat t]; rfl

theorem sortB {X : CallFn} (h20 : ∀ a H, X 20 a H = XB 20 a H) : SortOK X := by
  intro ns H f v hown hlt hl hk
  rcases hown.2 with ⟨rfl, hn⟩ | ⟨b, p, rfl, hne, hb, hfb, hg⟩
  · have hn0 : ns = [] := by simpa using hn
    subst hn0
    exact ⟨H, [], sort_nil h20 H, .refl _, List.Pairwise.nil, hown, hk, fun n _ => Ext.refl _ _⟩
  · rw [names_flat, List.length_map] at *
    obtain ⟨ms, hms⟩ : ∃ ms, ms = ns.mergeSort (fun a b => decide (a ≤ b)) := ⟨_, rfl⟩
    have hperm : ms.Perm ns := by rw [hms]; exact List.mergeSort_perm _ _
    have hsort : (ns.map nb).mergeSort (fun x y => decide (x ≤ y)) = ms.map nb := by
      rw [hms]
      exact (List.map_mergeSort (fun a ha b hb => (nb_le (hlt a ha) (hlt b hb)).symm)).symm
    have hstr : (ms.map nb).map strC = ms.map nm := by
      rw [List.map_map]; rfl
    have hX : X 20 [.slice b 0 ns.length (.tail 1)] H = some (.tuple [], H.upd b (.cells (ms.map nm) 9 (some (f, p))) 0) := by
      rw [h20, XB, sortK_eq]
      apply orC_left
      simp only [sortC, beq_t rfl, hg, strs_names, List.length_map, blt_t (show ns.length < 4611686018427387904 by omega), Bool.and_self, hsort, hstr]
    refine ⟨_, ms, calls_hook hX, hperm, ?_, ⟨?_, .inr ⟨b, p, ?_, ?_, ?_, hfb, ?_⟩⟩, Hok.upd hg hk, fun n hn => ?_⟩
    · rw [hms]
      have := List.pairwise_mergeSort (le := fun a b : Nat => decide (a ≤ b)) (fun a b c h1 h2 => by simp at *; omega) (fun a b => by simp; omega) ns
      exact this.imp fun h => by simpa using h
    · intro x hx
      obtain ⟨m, _, rfl⟩ := List.mem_map.1 hx
      rfl
    · rw [List.length_map, hperm.length_eq]
    · intro e
      have := congrArg List.length e
      rw [List.length_map, hperm.length_eq] at this
      exact hne (by simpa using this)
    · rw [Heap.upd_next]; exact hb
    · rw [names_flat]; exact upd_get
    · have hn' := hn (by intro e; cases e)
      exact Ext.upd hk hg (by omega) (fun g q e => by simp only [Option.some.injEq, Prod.mk.injEq] at e; omega)


theorem sortsY : SortsStrings Tryz.prog 20 := fun blk off cap ss w h1 h2 h3 => Any.slices_Sort_string Tryz.lays190 blk off cap ss w h1 h2 h3
theorem mixedY : Tryz.prog.follows .mixedOrders = true := by kernel_rfl
theorem xbOK : CallOK Tryz.prog XB := by
  unfold XB
  rw [sortK_eq]
  exact orC_ok (sortC_ok Tryz.func20 (by kernel_rfl) (by kernel_rfl) sortsY) (plainC_ok (call_sound noneX mixedY 3000) _)
theorem xrOK : CallOK Tryz.prog XR :=
  orC_ok xbOK (orC_ok (rf106_ok xbOK mixedY (go_le 3000)) (orC_ok (rf26_ok xbOK mixedY (go_le 3000)) (knotX_ok xbOK mixedY (sortB fun _ _ => rfl) (go_le 3000))))

theorem ret_end {nt m : Nat} {f : Func} {env : Env} {H : Heap} {r : CV} (hr : resultsC Tryz.prog f.results.toList env H = some r) {η : Eta} {w w0 : World} {a : Act} (ha : ARel η nt env a) (m0 : Moved (fun _ => none) noHeap w0 η H w) :
    Code.ret.wpIn (K.Fr none) m Tryz.prog (fun ex a' w' => ex = .ret ∧ ∃ η' env' H', ARel η' nt env' a' ∧ Moved (fun _ => none) noHeap w0 η' H' w' ∧ resultsC Tryz.prog f.results.toList env' H' = some r) a w :=
  wpIn_ret ⟨rfl, η, env, H, ha, m0, hr⟩

theorem answers13 : Answers Tryz.prog 13 (.bool true) := by
  refine answers_of (m := 1) Tryz.func13 (c := codeOf Tryz.f13) rfl (by decide) ?_ rfl
  intro w a ha hH
  rw [show codeOf Tryz.f13 = behindL [sub (codeOf Tryz.f13) [false], sub (codeOf Tryz.f13) [true,false]] (behindL [sub (codeOf Tryz.f13) [true,true,false]] (behindL [sub (codeOf Tryz.f13) [true,true,true,false]] (behindL [sub (codeOf Tryz.f13) [true,true,true,true,false]] (behindL [sub (codeOf Tryz.f13) [true,true,true,true,true,false]] (behindL [sub (codeOf Tryz.f13) [true,true,true,true,true,true,false]] (behindL [sub (codeOf Tryz.f13) [true,true,true,true,true,true,true,false]] .ret)))))) from rfl]
  refine stage_wp xrOK mixedY (go_le 3000) s13_1 ha hH fun η1 a1 w1 ha1 m1 => ?_
  refine stage_wp xrOK mixedY (go_le 3000) s13_2 ha1 m1.rel fun η2 a2 w2 ha2 m2 => ?_
  refine stage_wp xrOK mixedY (go_le 3000) s13_3 ha2 m2.rel fun η3 a3 w3 ha3 m3 => ?_
  refine stage_wp xrOK mixedY (go_le 3000) s13_4 ha3 m3.rel fun η4 a4 w4 ha4 m4 => ?_
  refine stage_wp xrOK mixedY (go_le 3000) s13_5 ha4 m4.rel fun η5 a5 w5 ha5 m5 => ?_
  refine stage_wp xrOK mixedY (go_le 3000) s13_6 ha5 m5.rel fun η6 a6 w6 ha6 m6 => ?_
  refine stage_wp xrOK mixedY (go_le 3000) s13_7 ha6 m6.rel fun η7 a7 w7 ha7 m7 => ?_
  exact ret_end (f := Tryz.f13) rfl ha7 (Moved.trans hH m1 (Moved.trans m1.rel m2 (Moved.trans m2.rel m3 (Moved.trans m3.rel m4 (Moved.trans m4.rel m5 (Moved.trans m5.rel m6 m7))))))
theorem answers14 : Answers Tryz.prog 14 (.bool true) := by
  refine answers_of (m := 1) Tryz.func14 (c := codeOf Tryz.f14) rfl (by decide) ?_ rfl
  intro w a ha hH
  rw [show codeOf Tryz.f14 = behindL [sub (codeOf Tryz.f14) [false], sub (codeOf Tryz.f14) [true,false]] (behindL [sub (codeOf Tryz.f14) [true,true,false]] (behindL [sub (codeOf Tryz.f14) [true,true,true,false]] (behindL [sub (codeOf Tryz.f14) [true,true,true,true,false]] (behindL [sub (codeOf Tryz.f14) [true,true,true,true,true,false]] (behindL [sub (codeOf Tryz.f14) [true,true,true,true,true,true,false]] .ret))))) from rfl]
  refine stage_wp xrOK mixedY (go_le 3000) s14_1 ha hH fun η1 a1 w1 ha1 m1 => ?_
  refine stage_wp xrOK mixedY (go_le 3000) s14_2 ha1 m1.rel fun η2 a2 w2 ha2 m2 => ?_
  refine stage_wp xrOK mixedY (go_le 3000) s14_3 ha2 m2.rel fun η3 a3 w3 ha3 m3 => ?_
  refine stage_wp xrOK mixedY (go_le 3000) s14_4 ha3 m3.rel fun η4 a4 w4 ha4 m4 => ?_
  refine stage_wp xrOK mixedY (go_le 3000) s14_5 ha4 m4.rel fun η5 a5 w5 ha5 m5 => ?_
  refine stage_wp xrOK mixedY (go_le 3000) s14_6 ha5 m5.rel fun η6 a6 w6 ha6 m6 => ?_
  exact ret_end (f := Tryz.f14) rfl ha6 (Moved.trans hH m1 (Moved.trans m1.rel m2 (Moved.trans m2.rel m3 (Moved.trans m3.rel m4 (Moved.trans m4.rel m5 m6)))))

theorem xfOK : CallOK Tryz.prog XF :=
  orC_ok (knownC_ok rfl answers13) (orC_ok (knownC_ok rfl answers14) (orC_ok xbOK (knotX_ok xbOK mixedY (sortB fun _ _ => rfl) (fun _ _ _ _ _ h => h))))

theorem known_none {f g : Nat} {r : CV} (h : g ≠ f) (a : List CV) (H : Heap) : knownC f r g a H = none := by
  unfold knownC
  rw [beq_f h]
theorem knot_none {rec : RunFn} {f : Nat} (h : f ≠ 9) (a : List CV) (H : Heap) : knotX rec f a H = none := by
  unfold knotX
  rw [beq_f h]
  rfl
theorem xf_xb {f : Nat} (h13 : f ≠ 13) (h14 : f ≠ 14) (h9 : f ≠ 9) (a : List CV) (H : Heap) : XF f a H = XB f a H := by
  rw [XF, orC_right (known_none h13 a H), orC_right (known_none h14 a H)]
  unfold orC
  cases h : XB f a H with
  | some x => rfl
  | none => exact knot_none h9 a H
theorem xf_none {f : Nat} (h13 : f ≠ 13) (h14 : f ≠ 14) (h9 : f ≠ 9) (h20 : f ≠ 20) (h : [15, 20, 35].contains f = false) (a : List CV) (H : Heap) : XF f a H = none := by
  rw [xf_xb h13 h14 h9, xb_none h20 h]
theorem xf_nine (a : List CV) (H : Heap) : XF 9 a H = knotX (go Tryz.prog XB) 9 a H := by
  rw [XF, orC_right (known_none (by decide) a H), orC_right (known_none (by decide) a H), orC_right (xb_none (by decide) (by decide) a H)]
theorem yxB : YX XB := ⟨xb_none (by decide) (by decide), xb_none (by decide) (by decide), xb_none (by decide) (by decide), xb_none (by decide) (by decide), xb_none (by decide) (by decide), sortB fun _ _ => rfl, checkB fun _ _ => rfl⟩
theorem yxF : YX XF := ⟨xf_none (by decide) (by decide) (by decide) (by decide) (by decide), xf_none (by decide) (by decide) (by decide) (by decide) (by decide), xf_none (by decide) (by decide) (by decide) (by decide) (by decide), xf_none (by decide) (by decide) (by decide) (by decide) (by decide), xf_none (by decide) (by decide) (by decide) (by decide) (by decide),
  sortB (xf_xb (by decide) (by decide) (by decide)), checkB (xf_xb (by decide) (by decide) (by decide))⟩

theorem knwF : Knw XF := by
  have k13 : ∀ H, calls Tryz.prog XF 13 [] H = some (.bool true, H) := fun H => calls_hook rfl
  have k14 : ∀ H, calls Tryz.prog XF 14 [] H = some (.bool true, H) := fun H => calls_hook rfl
  have k4 : ∀ H, calls Tryz.prog XF 4 [] H = some (.bool true, H) := fun H => by
    have key : ∃ e, go Tryz.prog XF 2 (codeOf Tryz.f4) (envOf [] 0 .nil) H = some (.ret, e, H) ∧ e.get 0 = some (.bool true) := by
      simp only [codeOf, Tryz.f4, go_seq, go_region, opsSeq_step, opsSeq_guard, guardStep_true, guardStep_false, guardVal, opsSeq_nil, afterStep_some, afterStep_none, stepC, kindOf, quietC, evC, Nat.reduceLT, Tr.get_set, if_true, if_false, Nat.reduceEqDiff, Option.map_some, Option.bind_some, List.getElem?_toArray, List.getElem?_cons_zero, List.getElem?_cons_succ, ofVal, decide_true, decide_false, BEq.rfl, andThen_normal, andThen_exit, andThen_ret, inBlock_normal, inBlock_ret, go_skip, go_exit, go_ret, loudStep, isCall, loudC, targetC, evs, evParts, mapO, List.nil_append, List.append_nil, List.cons_append, loadC, Heap.skip_get, Heap.get_put, Heap.skip_next, Heap.put_next, k13]
      exact ⟨_, rfl, by simp only [Tr.get_set, if_true]⟩
    obtain ⟨e, key, e2⟩ := key
    exact calls_ret (xf_none (by decide) (by decide) (by decide) (by decide) (by decide) _ _) Tryz.func4 rfl (by decide) (nt := 2) rfl key (results_one e2)
  refine ⟨k4, fun H => ?_⟩
  have key : ∃ e, go Tryz.prog XF 5 (codeOf Tryz.f5) (envOf [] 0 .nil) H = some (.ret, e, H) ∧ e.get 0 = some (.bool true) := by
    simp only [codeOf, Tryz.f5, go_seq, go_region, opsSeq_step, opsSeq_guard, guardStep_true, guardStep_false, guardVal, opsSeq_nil, afterStep_some, afterStep_none, stepC, kindOf, quietC, evC, Nat.reduceLT, Tr.get_set, if_true, if_false, Nat.reduceEqDiff, Option.map_some, Option.bind_some, List.getElem?_toArray, List.getElem?_cons_zero, List.getElem?_cons_succ, ofVal, decide_true, decide_false, BEq.rfl, andThen_normal, andThen_exit, andThen_ret, inBlock_normal, inBlock_ret, go_skip, go_exit, go_ret, loudStep, isCall, loudC, targetC, evs, evParts, mapO, List.nil_append, List.append_nil, List.cons_append, loadC, Heap.skip_get, Heap.get_put, Heap.skip_next, Heap.put_next, k14, k4, bft, btf]
    exact ⟨_, rfl, by simp only [Tr.get_set, if_true]⟩
  obtain ⟨e, key, e2⟩ := key
  exact calls_ret (xf_none (by decide) (by decide) (by decide) (by decide) (by decide) _ _) Tryz.func5 rfl (by decide) (nt := 5) rfl key (results_one e2)

theorem wxF : WX XF XB where
  l := ⟨yxF, by funext a H; exact xf_none (by decide) (by decide) (by decide) (by decide) (by decide) a H, xf_none (by decide) (by decide) (by decide) (by decide) (by decide), xf_none (by decide) (by decide) (by decide) (by decide) (by decide)⟩
  k := knwF
  x3 := xf_none (by decide) (by decide) (by decide) (by decide) (by decide)
  x6 := xf_none (by decide) (by decide) (by decide) (by decide) (by decide)
  x7 := xf_none (by decide) (by decide) (by decide) (by decide) (by decide)
  x10 := xf_none (by decide) (by decide) (by decide) (by decide) (by decide)
  x18 := by funext a H; exact xf_none (by decide) (by decide) (by decide) (by decide) (by decide) a H
  x19 := by funext a H; exact xf_none (by decide) (by decide) (by decide) (by decide) (by decide) a H
  x37 := by funext a H; exact xf_none (by decide) (by decide) (by decide) (by decide) (by decide) a H
  x21 := by funext a H; exact xf_none (by decide) (by decide) (by decide) (by decide) (by decide) a H
  nam := fun c H hc => calls_hook (by rw [xf_xb (by decide) (by decide) (by decide)]; exact nam15 c H hc)
  x9 := xf_nine
  z := yxB
  z18 := by funext a H; exact xb_none (by decide) (by decide) a H
  z19 := by funext a H; exact xb_none (by decide) (by decide) a H
  z37 := by funext a H; exact xb_none (by decide) (by decide) a H
  z21 := by funext a H; exact xb_none (by decide) (by decide) a H
end Go.Y

namespace Go.Y
open Go.K Go.Proofs
set_option linter.unusedSimpArgs false
set_option linter.unusedVariables false
set_option maxRecDepth 10000

def fieldsOf : Option TypeDesc → List (Nat × Nat)
  | some (.struct fs) => fs.toList.map fun f => (f.type, f.offset)
  | _ => []
theorem u43f : fieldsOf (Tryz.prog.underlying 43) = [(5, 0), (5, 1), (5, 2)] := by kernel_rfl
theorem u43 : ∃ f0 f1 f2 : Field, Tryz.prog.underlying 43 = some (.struct #[f0, f1, f2]) ∧ (f0.type = 5 ∧ f0.offset = 0) ∧ (f1.type = 5 ∧ f1.offset = 1) ∧ (f2.type = 5 ∧ f2.offset = 2) := by
  have h := u43f
  cases e : Tryz.prog.underlying 43 with
  | none => rw [e] at h; cases h
  | some d =>
    rw [e] at h
    cases d with
    | struct fs =>
      obtain ⟨l⟩ := fs
      simp only [fieldsOf] at h
      match l, h with
      | [f0, f1, f2], h =>
        simp only [List.map_cons, List.map_nil, List.cons.injEq, Prod.mk.injEq, and_true] at h
        exact ⟨f0, f1, f2, rfl, h.1, h.2.1, h.2.2⟩
    | _ => cases h
open Go.ChangeShapes Go.WideShapes
section
variable {H : Type} {enc : TypeId × Value → H}

theorem cell43 : Tryz.prog.cellsOf 43 = 3 := by kernel_rfl
theorem cell5 : Tryz.prog.cellsOf 5 = 1 := by kernel_rfl

/-- An element of the argument: three letters. -/
theorem open_seen {W : World} {sp : Nat → Bool} {n : Nat} {cs : List Value} {x : DataW H × List MemPlace} (h : DataW.trod enc Tryz.prog W 0 sp true n 43 cs = some x) : ∃ s : Nat × Nat × Nat, (s.1 < 256 ∧ s.2.1 < 256 ∧ s.2.2 < 256) ∧ cs = [.int .u8 s.1, .int .u8 s.2.1, .int .u8 s.2.2] := by
  obtain ⟨f0, f1, f2, hu, ⟨t0, o0⟩, ⟨t1, o1⟩, ⟨t2, o2⟩⟩ := u43
  obtain ⟨y0, y1, y2, m, _, hl, h0, h1, h2⟩ := Go.Deep.trod_struct3 hu h
  rw [cell43] at hl
  rw [t0, o0, cell5] at h0
  rw [t1, o1, cell5] at h1
  rw [t2, o2, cell5] at h2
  have one : ∀ i (hi : i < 3) (y : DataW H × List MemPlace), DataW.trod enc Tryz.prog W 0 sp true m 5 ((cs.drop i).take 1) = some y → ∃ k : Nat, k < 256 ∧ cs[i]'(by omega) = .int .u8 k := by
    intro i hi y hE
    obtain ⟨z, e1, _, hw⟩ := DataW.trod_int u5 hE
    have hd : (cs.drop i).take 1 = [cs[i]'(by omega)] := by
      rw [List.drop_eq_getElem_cons (by omega)]; rfl
    rw [hd] at e1
    injection e1 with e1 _
    simp only [Lit.wf, Bool.and_eq_true, decide_eq_true_eq] at hw
    have hlo : (0 : Int) ≤ z := hw.1
    have hhi : z ≤ 255 := hw.2
    refine ⟨z.toNat, by omega, ?_⟩
    rw [e1, show ((z.toNat : Nat) : Int) = z by omega]
  obtain ⟨a, ha, ea⟩ := one 0 (by omega) _ h0
  obtain ⟨b, hb, eb⟩ := one 1 (by omega) _ h1
  obtain ⟨c, hc, ec⟩ := one 2 (by omega) _ h2
  refine ⟨(a, b, c), ⟨ha, hb, hc⟩, ?_⟩
  match cs, hl, ea, eb, ec with
  | [x, y, z], _, ea, eb, ec => simp only [List.getElem_cons_zero, List.getElem_cons_succ] at ea eb ec; rw [ea, eb, ec]

def sv (s : Nat × Nat × Nat) : List Value := [.int .u8 s.1, .int .u8 s.2.1, .int .u8 s.2.2]
theorem row_cells : ∀ (ss : List (Nat × Nat × Nat)) (k : Nat) (L : List Value), (∀ i (hi : i < ss.length) j, j < 3 → L[k + i * 3 + j]? = (sv ss[i])[j]?) → ∃ rest, L.drop k = ss.flatMap sv ++ rest
  | [], k, L, _ => ⟨L.drop k, rfl⟩
  | s :: t, k, L, h => by
    obtain ⟨rest, hr⟩ := row_cells t (k + 3) L (fun i hi j hj => by
      have := h (i + 1) (by simpa using hi) j hj
      rw [show k + (i + 1) * 3 + j = k + 3 + i * 3 + j by omega] at this
      simpa using this)
    refine ⟨rest, ?_⟩
    have e : ∀ j v, L[k + j]? = some v → L.drop (k + j) = v :: L.drop (k + j + 1) := fun j v hv => by
      obtain ⟨hlt, hv⟩ := List.getElem?_eq_some_iff.1 hv
      rw [List.drop_eq_getElem_cons hlt, hv]
    have a0 := h 0 (by simp) 0 (by omega)
    have a1 := h 0 (by simp) 1 (by omega)
    have a2 := h 0 (by simp) 2 (by omega)
    simp only [Nat.zero_mul, Nat.add_zero, sv, List.getElem_cons_zero, List.getElem?_cons_zero, List.getElem?_cons_succ] at a0 a1 a2
    have b0 := e 0 _ a0
    have b1 := e 1 _ a1
    have b2 := e 2 _ a2
    simp only [Nat.add_zero, Nat.add_assoc, Nat.reduceAdd] at b0 b1 b2
    rw [b0, b1, b2, hr, List.flatMap_cons]
    rfl
theorem seen_vals (η : Eta) : ∀ ss : List (Nat × Nat × Nat), CV.vals η (ss.flatMap fun s => (seenCV s).cells) = some (ss.flatMap sv)
  | [] => rfl
  | s :: t => by
    have ih := seen_vals η t
    simp only [List.flatMap_cons, seenCV, CV.cells, List.cons_append, List.nil_append, CV.vals, CV.val, Option.bind_some] at ih ⊢
    rw [ih]
    rfl

/-- The argument in clean memory: it is only read. -/
theorem arg_look {W : World} {base : Nat} {v0 : Value} {d0 : DataW H} {p0 : List MemPlace} (hok : Value.okWide Tryz.prog W .any base 22 v0) (h0 : DataW.Trod enc Tryz.prog W 0 (fun _ => true) true 22 v0 d0 p0) :
    ∃ (η : Eta) (G : Heap) (l : CV) (ss : List (Nat × Nat × Nat)), HRel η G W ∧ CV.vals η [l] = some [v0] ∧ Look G 3 l (ss.map seenCV) ∧ HOk G ∧ (∀ s ∈ ss, s.1 < 256 ∧ s.2.1 < 256 ∧ s.2.2 < 256) ∧ ∀ b o, G.get b = some o → o.isLook = true := by
  have hs : v0 = .slice none 0 0 ∨ ∃ a len cap, v0 = .slice (some a) len cap ∧ W.has Tryz.prog .any base a 43 cap := by
    unfold Value.okWide at hok
    rw [u22] at hok
    simp only at hok
    unfold Cell.okWide at hok
    rw [u22] at hok
    simp only at hok
    unfold Cell.ok at hok
    rw [u22] at hok
    cases v0 with
    | slice addr len cap =>
      cases addr with
      | none =>
        left
        revert hok
        cases len <;> cases cap <;> simp
      | some a => exact .inr ⟨a, len, cap, rfl, hok.2.2⟩
    | _ => exact hok.elim
  obtain ⟨fuel, h0⟩ := h0
  rcases hs with rfl | ⟨a, len, cap, rfl, hhas⟩
  · exact ⟨fun _ => none, noHeap, .nilSlice, [], noHeap_rel W, rfl, ⟨by simp, .inl ⟨rfl, rfl⟩⟩, ⟨fun f b hb => (by simp [noHeap, Heap.mem, Tr.get_nil] at hb), fun b o f p h => (by simp [noHeap, Heap.get, Tr.get_nil] at h)⟩, fun s hs => (by cases hs), fun b o h => (by simp [noHeap, Heap.get, Tr.get_nil] at h)⟩
  rcases Go.Deep.open_slice u22 h0 with ⟨hcs, _⟩ | ⟨a', len', cap', m, n, D, Pl, hcs, _, hlc, _, hm, _, hel⟩
  · simp [Value.cells] at hcs
  have hcs' : a' = a ∧ len' = len ∧ cap' = cap := by
    simp [Value.cells] at hcs
    exact ⟨hcs.1.symm, hcs.2.1.symm, hcs.2.2.symm⟩
  obtain ⟨rfl, rfl, rfl⟩ := hcs'
  obtain ⟨_, hspot, row, cells, hshape, _⟩ := hhas
  obtain ⟨blk, off, spot⟩ := a'
  simp only at hspot
  subst hspot
  simp only [if_true] at hm
  -- the block in the world
  obtain ⟨c, fr, hc⟩ : ∃ c fr, W.heap[blk]? = some (.cells c row fr) := by
    unfold World.shape? at hshape
    split at hshape
    · rename_i c elem fr hc
      simp only [Option.some.injEq, Prod.mk.injEq] at hshape
      exact ⟨c, fr, by rw [← hshape.1]; exact hc⟩
    · cases hshape
  -- its elements
  have hseen : ∀ i, i < len' → ∃ s : Nat × Nat × Nat, (s.1 < 256 ∧ s.2.1 < 256 ∧ s.2.2 < 256) ∧ ∀ j (hj : j < 3), c[off + i * 3 + j]? = [Value.int .u8 s.1, .int .u8 s.2.1, .int .u8 s.2.2][j]? := by
    intro i hi
    obtain ⟨cs', h1, h2⟩ := hel i (by omega)
    obtain ⟨s, hs, rfl⟩ := open_seen h2
    rw [cell43] at h1
    obtain ⟨_, _, h3⟩ := World.cells?_some h1
    refine ⟨s, hs, fun j hj => ?_⟩
    have := h3 j hj
    rw [Addr.add_mk, Addr.add_mk] at this
    simp only [World.cell?, hc, Option.isSome_none, Bool.false_eq_true, if_false] at this
    exact this
  obtain ⟨f, hf⟩ := Go.Deep.choose_lt hseen
  obtain ⟨ss, hss⟩ : ∃ ss : List (Nat × Nat × Nat), ss = (List.range len').map f := ⟨_, rfl⟩
  have hsl : ss.length = len' := by rw [hss]; simp
  have hsi : ∀ i (hi : i < ss.length), ss[i] = f i := fun i hi => by simp [hss]
  have hlt : ∀ s ∈ ss, s.1 < 256 ∧ s.2.1 < 256 ∧ s.2.2 < 256 := by
    intro s hs
    obtain ⟨i, hi, rfl⟩ := List.mem_iff_getElem.1 hs
    rw [hsi i hi]
    exact (hf i (by omega)).1
  have hmap : (ss.map seenCV).flatMap CV.cells = ss.flatMap fun s => (seenCV s).cells := by rw [List.flatMap_map]
  -- the memory with this one block
  have key : ∀ (cs : List CV) (base' o : Nat), base' + o = off → (∃ pre l rest, CV.vals (fun k => if k = 0 then some (⟨blk, base', 0⟩ : Go.K.Loc) else none) cs = some l ∧ c = (pre ++ l ++ rest).toArray ∧ pre.length = base') →
      (ss.map seenCV = [] ∨ o + (ss.map seenCV).length * 3 ≤ cs.length) → (cs.drop o).take ((ss.map seenCV).length * 3) = (ss.map seenCV).flatMap CV.cells →
      ∃ (η : Eta) (G : Heap) (l : CV) (ss : List (Nat × Nat × Nat)), HRel η G W ∧ CV.vals η [l] = some [Value.slice (some ⟨blk, off, none⟩) len' cap'] ∧ Look G 3 l (ss.map seenCV) ∧ HOk G ∧ (∀ s ∈ ss, s.1 < 256 ∧ s.2.1 < 256 ∧ s.2.2 < 256) ∧ ∀ b o, G.get b = some o → o.isLook = true := by
    rintro cs base' o hbo ⟨pre, l, rest, hl, hcc, hpre⟩ h4 h5
    have hget : ∀ b ob, (⟨1, Tr.nil.set 0 (CObj.look cs), .nil⟩ : Heap).get b = some ob → b = 0 ∧ ob = .look cs := by
      intro b ob h
      simp only [Heap.get, Tr.get_set] at h
      split at h
      · rename_i e; injection h with h; exact ⟨e, h.symm⟩
      · simp [Tr.get_nil] at h
    refine ⟨fun k => if k = 0 then some ⟨blk, base', 0⟩ else none, ⟨1, Tr.nil.set 0 (CObj.look cs), .nil⟩, .slice 0 o ss.length (.exact cap'), ss, ⟨fun b ob hb => ?_, fun b x h => ?_, fun b b' ob ob' x x' hb hb' _ _ _ hne => ?_, fun b ob f p hb hf => ?_, fun b ob f p hb hf => ?_⟩, ?_, ⟨fun x hx => ?_, .inr ⟨0, o, cap', cs, by rw [List.length_map], by show 0 < 1; omega, by simp [Heap.get, Tr.get_set], h4, h5⟩⟩, ⟨fun f b hb => ?_, fun b ob f p hb hf => ?_⟩, hlt, fun b ob hb => ?_⟩
    · obtain ⟨rfl, rfl⟩ := hget b ob hb
      exact ⟨⟨blk, base', 0⟩, by simp, pre, l, rest, row, fr, hl, by rw [hc, hcc], hpre⟩
    · show b < 1
      by_cases e : b = 0
      · omega
      · rw [if_neg e] at h; cases h
    · exact absurd ((hget b ob hb).1.trans (hget b' ob' hb').1.symm) hne
    · rw [(hget b ob hb).2] at hf; cases hf
    · rw [(hget b ob hb).2] at hf; cases hf
    · simp [CV.vals, CV.val, hbo, hsl]
    · obtain ⟨s, _, rfl⟩ := List.mem_map.1 hx
      rfl
    · simp [Heap.mem, Tr.get_nil] at hb
    · rw [(hget b ob hb).2] at hf; cases hf
    · rw [(hget b ob hb).2]; rfl
  by_cases h0' : ss = []
  · subst h0'
    exact key [] 0 off (by omega) ⟨[], [], c.toList, rfl, by simp, rfl⟩ (.inl rfl) (by simp)
  · have hpos : 0 < ss.length := List.length_pos_iff.2 h0'
    obtain ⟨rest, hr⟩ := row_cells ss off c.toList (fun i hi j hj => by
      have := (hf i (by omega)).2 j hj
      rw [Array.getElem?_toList, this, hsi i hi]; rfl)
    have hoff : off < c.size := by
      have := (hf 0 (by omega)).2 0 (by omega)
      simp only [Nat.zero_mul, Nat.add_zero, List.getElem?_cons_zero] at this
      exact (Array.getElem?_eq_some_iff.1 this).1
    refine key (ss.flatMap fun s => (seenCV s).cells) off 0 (by omega) ⟨c.toList.take off, ss.flatMap sv, rest, seen_vals _ ss, ?_, by rw [List.length_take, Array.length_toList]; omega⟩ (.inr ?_) ?_
    · rw [List.append_assoc, ← hr, List.take_append_drop]
    · have := flat_length (sz := 3) (vs := ss.map seenCV) (fun x hx => by obtain ⟨s, _, rfl⟩ := List.mem_map.1 hx; rfl)
      rw [hmap] at this
      omega
    · have := flat_length (sz := 3) (vs := ss.map seenCV) (fun x hx => by obtain ⟨s, _, rfl⟩ := List.mem_map.1 hx; rfl)
      rw [hmap] at this ⊢
      rw [List.drop_zero, List.take_of_length_le (by omega)]
end
end Go.Y

namespace Go.Y
open Go.K Go.Proofs
set_option linter.unusedSimpArgs false
set_option linter.unusedVariables false
set_option maxRecDepth 100000
open Go.ChangeShapes Go.WideShapes Go.RowKit

theorem enter3 (v0 : Value) (W : World) : (callFunc 3 #[v0]).run Tryz.prog W = .ok (.enter 3 #[v0]) W := by
  have hn : (Tryz.f3.name == "runtime.NumGoroutine") = false := by kernel_rfl
  have hb : Tryz.f3.body.isNone = false := by kernel_rfl
  simp only [callFunc, Sem.run_bind, run_program, Result.andThen_ok, Tryz.func3, hn, hb, Bool.false_eq_true, if_false, Sem.run_pure]

theorem call_true {H : Type} {enc : TypeId × Value → H} {W : World} {base : Nat} {v0 : Value} {d0 : DataW H} {p0 : List MemPlace} (hok : Value.okWide Tryz.prog W .any base 22 v0) (h0 : DataW.Trod enc Tryz.prog W 0 (fun _ => true) true 22 v0 d0 p0) :
    Calls Tryz.prog 3 #[v0] W fun e W' => e = .returned (.bool true) ∧ Below W.heap.size W W' := by
  obtain ⟨η, G, l, ss, hrel, hv, hl, hk, hlt, hlook⟩ := arg_look hok h0
  have hx3 : ∀ a H, XF 3 a H = none := xf_none (by decide) (by decide) (by decide) (by decide) (by decide)
  obtain ⟨H', hcall⟩ : ∃ H', calls Tryz.prog XF 3 [l] G = some (.bool true, H') := by
    by_cases hn : ss.length ≤ 8
    · obtain ⟨H', h, _⟩ := law_few wxF hl hk hn hlt
      exact ⟨H', h⟩
    · exact ⟨G, law_many hx3 wxF.x6 wxF.k hl (by rw [List.length_map]; omega)⟩
  rcases (calls_ok xfOK mixedY 3 [l] G _ _ hcall).2 η W [v0] hrel hv with ⟨_, h⟩ | ⟨v, w', h, _⟩
  · refine h.mono ?_
    rintro e W' ⟨η', v, rfl, hv', _, k⟩
    simp only [CV.val, Option.some.injEq] at hv'
    subst hv'
    exact ⟨rfl, k.os, k.tape, k.output, k.size, fun j hj => k.block j hj fun b o x ⟨hb, hlk⟩ _ => by rw [hlook b o hb] at hlk; cases hlk⟩
  · rw [enter3] at h
    cases h

end Go.Y
