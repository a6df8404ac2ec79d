/- A list of names that is taken from in front and put to behind. Which units lead to one (plain law), and the state of distances. distances: the units that lead to one unit. -/
import Derived.Test.YtmnhkbhdfkebmaaGreatY8

set_option linter.unusedSimpArgs false
set_option linter.unusedVariables false

namespace Go.Y
open Go.K Go.Proofs
set_option linter.unusedSimpArgs false
set_option linter.unusedVariables false
set_option maxRecDepth 10000

variable {X : CallFn}

def FrS (H : Heap) (v : CV) (q : List Nat) (f : Nat) : Prop := f < H.next ∧
  ((∃ b off cs, v = .slice b off q.length (.exact q.length) ∧ b < H.next ∧ H.get b = some (.cells cs 9 none) ∧ off + q.length ≤ cs.length ∧ (cs.drop off).take q.length = q.map nm) ∨
   (∃ b off p pre cap, v = .slice b off q.length cap ∧ b < H.next ∧ H.get b = some (.cells (pre ++ q.map nm) 9 (some (f, p))) ∧ pre.length = off ∧ ((q ≠ [] ∧ cap = .tail 1) ∨ (q = [] ∧ ∃ o, cap = .tailE 1 o))))
theorem FrS.ext {H H' : Heap} {v : CV} {q : List Nat} {f : Nat} (h : FrS H v q f) (hx : Ext H.next H H') : FrS H' v q f := by
  refine ⟨Nat.lt_of_lt_of_le h.1 hx.1, ?_⟩
  rcases h.2 with ⟨b, off, cs, h1, h2, h3, h4⟩ | ⟨b, off, p, pre, cap, h1, h2, h3, h4⟩
  · exact .inl ⟨b, off, cs, h1, Nat.lt_of_lt_of_le h2 hx.1, hx.2 _ _ h2 h3, h4⟩
  · exact .inr ⟨b, off, p, pre, cap, h1, Nat.lt_of_lt_of_le h2 hx.1, hx.2 _ _ h2 h3, h4⟩
theorem FrS.flat {H : Heap} {v : CV} {q : List Nat} {f : Nat} (h : FrS H v q f) : v.cells = [v] ∧ v.single = true := by
  rcases h.2 with ⟨b, off, cs, rfl, _⟩ | ⟨b, off, p, pre, cap, rfl, _⟩ <;> exact ⟨rfl, rfl⟩
theorem FrS.len {H : Heap} {v : CV} {q : List Nat} {f : Nat} (h : FrS H v q f) (H' : Heap) : lenC Tryz.prog 27 H' v = some (nI q.length) := by
  rcases h.2 with ⟨b, off, cs, rfl, _⟩ | ⟨b, off, p, pre, cap, rfl, _⟩ <;> simp [lenC, u30]

/-- The first one. -/
theorem frs_head {H : Heap} {v : CV} {x : Nat} {q : List Nat} {f : Nat} (h : FrS H v (x :: q) f) : ∃ b off cs fam, indexAddrC Tryz.prog 27 v (.int .i64 0) = some (.ptr b off) ∧ H.get b = some (.cells cs 9 fam) ∧ cs[off]? = some (nm x) := by
  rcases h.2 with ⟨b, off, cs, rfl, h2, h3, h4, h5⟩ | ⟨b, off, p, pre, cap, rfl, h2, h3, h4, h5⟩
  · refine ⟨b, off, cs, none, ?_, h3, ?_⟩
    · show indexAddrC Tryz.prog 27 _ (.int .i64 (Int.ofNat 0)) = _
      simp only [indexAddrC, u30, blt_t (show 0 < (x :: q).length by simp), s9, Option.map_some, Nat.zero_mul, Nat.add_zero]
    · have := congrArg (fun l => l[0]?) h5
      simp only [List.map_cons, List.getElem?_cons_zero, List.length_cons, List.getElem?_take, Nat.zero_lt_succ, if_true, List.getElem?_drop, Nat.add_zero] at this
      exact this
  · rcases h5 with ⟨_, rfl⟩ | ⟨e, _⟩
    · refine ⟨b, off, _, _, ?_, h3, ?_⟩
      · show indexAddrC Tryz.prog 27 _ (.int .i64 (Int.ofNat 0)) = _
        simp only [indexAddrC, u30, blt_t (show 0 < (x :: q).length by simp), s9, Option.map_some, Nat.zero_mul, Nat.add_zero]
      · rw [List.getElem?_append_right (by omega), ← h4]; simp
    · cases e

/-- The rest. -/
theorem frs_tail {H : Heap} {v : CV} {x : Nat} {q : List Nat} {f : Nat} (h : FrS H v (x :: q) f) : ∃ v', sliceC Tryz.prog H 27 v (some (.int .i64 1)) none none = some v' ∧ FrS H v' q f := by
  rcases h.2 with ⟨b, off, cs, rfl, h2, h3, h4, h5⟩ | ⟨b, off, p, pre, cap, rfl, h2, h3, h4, h5⟩
  · have hs : sliceC Tryz.prog H 27 (.slice b off (x :: q).length (.exact (x :: q).length)) (some (.int .i64 1)) none none = some (.slice b (startC (x :: q).length 1 off 1) q.length (.exact q.length)) := by
      show sliceC Tryz.prog H 27 _ (some (.int .i64 (Int.ofNat 1))) none none = _
      simp only [sliceC, u30, s9, Option.bind_some, roomC, cutIdxO, cutHi, cutIdx, ble_t (show 1 ≤ q.length + 1 by omega), Option.isSome_none, recut, List.length_cons, Nat.add_sub_cancel, Option.map_some]
    refine ⟨_, hs, h.1, .inl ⟨b, _, cs, rfl, h2, h3, ?_, ?_⟩⟩
    · rw [startC_eq]; simp only [List.length_cons] at h4 ⊢; split <;> omega
    · rw [startC_eq]
      cases q with
      | nil => simp
      | cons y t =>
        rw [if_neg (by simp)]
        have := congrArg (List.drop 1) h5
        simp only [List.drop_take, List.drop_drop, List.map_cons, List.drop_succ_cons, List.drop_zero, List.length_cons] at this ⊢
        rw [show off + 1 * 1 = off + 1 by omega]
        exact this
  · rcases h5 with ⟨_, rfl⟩ | ⟨e, _⟩
    · have hroom : roomC H b off 1 (.tail 1) = some (q.length + 1) := by simp [roomC, h3]; omega
      have hs : sliceC Tryz.prog H 27 (.slice b off (x :: q).length (.tail 1)) (some (.int .i64 1)) none none = recut 1 b off false (.tail 1) (q.length + 1) 1 (q.length + 1) (q.length + 1) := by
        show sliceC Tryz.prog H 27 _ (some (.int .i64 (Int.ofNat 1))) none none = _
        simp only [sliceC, u30, s9, Option.bind_some, hroom, cutIdxO, cutHi, cutIdx, ble_t (show 1 ≤ (x :: q).length by simp), ble_t (show 1 ≤ q.length + 1 by omega), Option.isSome_none, List.length_cons]
      rw [hs]
      cases q with
      | nil => exact ⟨.slice b (off + 1 * 1) 0 (.tailE 1 off), rfl, h.1, .inr ⟨b, _, p, pre ++ [nm x], _, rfl, h2, by simpa using h3, by simp; omega, .inr ⟨rfl, _, rfl⟩⟩⟩
      | cons y t =>
        refine ⟨.slice b (off + 1) (y :: t).length (.tail 1), ?_, h.1, .inr ⟨b, _, p, pre ++ [nm x], _, rfl, h2, by simpa using h3, by simp; omega, .inl ⟨by simp, rfl⟩⟩⟩
        simp only [recut, beq_t rfl, ble_t (Nat.le_refl _), Bool.and_self, beq_f (show (y :: t).length + 1 ≠ 1 by simp), Nat.mul_one, Nat.add_sub_cancel]
    · cases e

theorem frs_append {H : Heap} {v : CV} {q : List Nat} {f c x : Nat} (h : FrS H v q f) (hk : HOk H) (hc : c < H.next) (hg : H.get c = some (.cells [nm x] 9 none)) (hl : q.length < 1000) :
    ∃ v' H' f', appendC Tryz.prog 27 27 H v (.slice c 0 1 (.exact 1)) = some (v', H') ∧ FrS H' v' (q ++ [x]) f' ∧ HOk H' ∧ Kf f f' H H' := by
  have he : elemsC H 1 (.slice c 0 1 (.exact 1)) = some (1, [nm x]) := by simp [elemsC, hg, takeE]
  obtain ⟨i, i1, i2, i3⟩ := i9
  have hroom : 2 * (q.length + 1) * i.bytes ≤ 140737488355328 := by rw [i3]; omega
  rcases h.2 with ⟨b, off, cs, rfl, h2, h3, h4, h5⟩ | ⟨b, off, p, pre, cap, rfl, h2, h3, h4, h5⟩
  · have r1 : elemsC H 1 (.slice b off q.length (.exact q.length)) = some (q.length, q.map nm) := by
      cases hq : q.length with
      | zero => rw [List.length_eq_zero_iff.1 hq]; rfl
      | succ n =>
        have : takeE (q.length * 1) (cs.drop off) = some (q.map nm) := by rw [Nat.mul_one, takeE_of (by rw [List.length_drop]; omega), h5]
        rw [hq] at this
        simp only [elemsC, h3, this, Option.map_some]
    have hap : appendC Tryz.prog 27 27 H (.slice b off q.length (.exact q.length)) (.slice c 0 1 (.exact 1)) = some (growNew H 9 (q.length + 1) 1 (q.map nm ++ [nm x])) := by
      simp only [appendC, u30, i1, i2, z9, he, Option.bind_some, List.length_singleton, beq_t rfl, List.all_cons, List.all_nil, CV.single, nm_single, Bool.and_self, tailOf, roomC, ble_f (show q.length < q.length + 1 by omega), r1, Option.map_some]
      rw [ble_t hroom, ble_t (by omega)]
      rfl
    refine ⟨_, _, H.next, hap, ⟨Nat.lt_succ_self _, .inr ⟨H.next, 0, 0, [], .tail 1, by simp, Nat.lt_succ_self _, ?_, rfl, .inl ⟨by simp, rfl⟩⟩⟩, ?_, Nat.le_succ _, .inr (Nat.le_refl _), fun b' o hb _ ho => ?_⟩
    · show (H.newF _).get H.next = _
      rw [Heap.newF_get, if_pos rfl]; simp
    · exact Hok.newF (fun f' p' e => by simp only [CObj.fam, Option.some.injEq, Prod.mk.injEq] at e; omega) hk
    · show (H.newF _).get b' = _
      rw [Heap.newF_get, if_neg (by omega)]; exact ho
  · have hroomc : roomC H b off 1 cap = some q.length := by
      have : ((pre ++ q.map nm).length - off) / 1 = q.length := by simp; omega
      rcases h5 with ⟨_, rfl⟩ | ⟨_, o, rfl⟩ <;> simp only [roomC, h3, this]
    have htl : tailOf 1 q.length cap = some true := by
      rcases h5 with ⟨_, rfl⟩ | ⟨rfl, o, rfl⟩ <;> rfl
    have hlen : (pre ++ q.map nm).length = off + q.length := by simp; omega
    have hgr : growAt H b off q.length 1 1 9 [nm x] = some (.slice H.next 0 (q.length + 1) (.tail 1), (H.upd b (.cells ((pre ++ q.map nm).take (off + q.length * 1)) 9 (some (f, p))) (off + q.length * 1)).newF (.cells (q.map nm ++ [nm x]) 9 (some (f, p + off)))) := by
      have h6 : takeE (q.length * 1) ((pre ++ q.map nm).drop off) = some (q.map nm) := by
        rw [← h4, List.drop_left, takeE_of (by simp), List.take_of_length_le (by simp)]
      simp only [growAt, h3, beq_t rfl, ble_t (show off + q.length * 1 ≤ (pre ++ q.map nm).length by rw [hlen]; omega), blt_t (show 0 < 1 by omega), Bool.and_self, h6, Option.map_some]
    have hap : appendC Tryz.prog 27 27 H (.slice b off q.length cap) (.slice c 0 1 (.exact 1)) = growAt H b off q.length 1 1 9 [nm x] := by
      simp only [appendC, u30, i1, i2, z9, he, Option.bind_some, List.length_singleton, beq_t rfl, List.all_cons, List.all_nil, CV.single, nm_single, Bool.and_self, htl, hroomc, ble_f (show q.length < q.length + 1 by omega)]
      rw [ble_t hroom, ble_t (show q.length + 1 ≤ 140737488355328 by omega)]
      rfl
    rw [hgr] at hap
    have hfq := hk.fam b _ f p h3 rfl
    refine ⟨_, _, f, hap, ⟨?_, .inr ⟨H.next, 0, p + off, [], .tail 1, by simp, ?_, ?_, rfl, .inl ⟨by simp, rfl⟩⟩⟩, ?_, ?_, .inl rfl, fun b' o hb hf ho => ?_⟩
    · show f < (H.upd _ _ _).next + 1
      rw [Heap.upd_next]; omega
    · show H.next < (H.upd _ _ _).next + 1
      rw [Heap.upd_next]; omega
    · rw [Heap.newF_get, if_pos (Heap.upd_next ..).symm]; simp
    · exact Hok.newF (fun f' p' e => by simp only [CObj.fam, Option.some.injEq, Prod.mk.injEq] at e; rw [Heap.upd_next]; omega) (Hok.upd h3 hk)
    · show H.next ≤ (H.upd _ _ _).next + 1
      rw [Heap.upd_next]; omega
    · rw [Heap.newF_get, if_neg (by rw [Heap.upd_next]; omega)]
      exact upd_keep hk h3 ho hf

end Go.Y

namespace Go.Y
open Go.K Go.Proofs
set_option linter.unusedSimpArgs false
set_option linter.unusedVariables false
set_option maxRecDepth 10000

variable {X : CallFn}

theorem mem_lows {rs : Rels} {u y : Nat} : u ∈ lows rs y ↔ ∃ r ∈ rs, r.1 ≠ 4 ∧ r.2.1 = y ∧ r.2.2 = u := by
  simp only [lows, List.mem_map, List.mem_filter, decide_eq_true_eq]
  constructor
  · rintro ⟨r, ⟨h1, h2, h3⟩, h4⟩; exact ⟨r, h1, h2, h3, h4⟩
  · rintro ⟨r, h1, h2, h3, h4⟩; exact ⟨r, ⟨h1, h2, h3⟩, h4⟩
/-- Relations lead from one unit to another one. -/
inductive Leads (rs : Rels) : Nat → Nat → Prop
  | refl (x : Nat) : Leads rs x x
  | cons {u y t : Nat} (h : u ∈ lows rs y) (k : Leads rs y t) : Leads rs u t

structure Bk (rs : Rels) (t : Nat) (vis : Nat → Bool) (q : List Nat) (x : Nat) (rest : List Nat) : Prop where
  start : vis t = true
  sound : ∀ y, vis y = true → Leads rs y t
  qs : ∀ y ∈ q, vis y = true
  closed : ∀ y, vis y = true → y ∉ q → ∀ u ∈ lows rs y, vis u = true ∨ (y = x ∧ u ∈ rest)
section
variable {rs : Rels} {t x : Nat} {vis : Nat → Bool} {q rest : List Nat}
theorem Bk.init (x : Nat) : Bk rs t (fun y => decide (y = t)) [t] x [] :=
  ⟨by simp, fun y h => by rw [of_decide_eq_true h]; exact .refl _, fun y hy => by simpa using hy, fun y hy hq => absurd (List.mem_singleton.2 (of_decide_eq_true hy)) hq⟩
theorem Bk.pop {x0 : Nat} (h : Bk rs t vis (x :: q) x0 []) : Bk rs t vis q x (lows rs x) :=
  ⟨h.start, h.sound, fun y hy => h.qs y (List.mem_cons_of_mem _ hy), fun y hy hq u hu => by
    by_cases e : y = x
    · subst e; exact .inr ⟨rfl, hu⟩
    · rcases h.closed y hy (fun hm => by rcases List.mem_cons.1 hm with e' | e'; exact e e'; exact hq e') u hu with h' | ⟨_, h'⟩
      · exact .inl h'
      · cases h'⟩
theorem Bk.old {u : Nat} (h : Bk rs t vis q x (u :: rest)) (hv : vis u = true) : Bk rs t vis q x rest :=
  ⟨h.start, h.sound, h.qs, fun y hy hq w hw => by
    rcases h.closed y hy hq w hw with h' | ⟨h1, h2⟩
    · exact .inl h'
    · rcases List.mem_cons.1 h2 with rfl | h2
      · exact .inl hv
      · exact .inr ⟨h1, h2⟩⟩
theorem Bk.new {u : Nat} (h : Bk rs t vis q x (u :: rest)) (hx : vis x = true) (hu : u ∈ lows rs x) : Bk rs t (fun y => if y = u then true else vis y) (q ++ [u]) x rest := by
  refine ⟨by simp only [h.start]; split <;> rfl, fun y hy => ?_, fun y hy => ?_, fun y hy hq w hw => ?_⟩
  · by_cases e : y = u
    · subst e; exact .cons hu (h.sound x hx)
    · rw [if_neg e] at hy; exact h.sound y hy
  · rcases List.mem_append.1 hy with hy | hy
    · by_cases e : y = u
      · rw [if_pos e]
      · rw [if_neg e]; exact h.qs y hy
    · rw [List.mem_singleton.1 hy, if_pos rfl]
  · have hne : y ≠ u := fun e => hq (List.mem_append_right _ (List.mem_singleton.2 e))
    rw [if_neg hne] at hy
    rcases h.closed y hy (fun hm => hq (List.mem_append_left _ hm)) w hw with h' | ⟨h1, h2⟩
    · left
      by_cases e : w = u
      · rw [if_pos e]
      · rw [if_neg e]; exact h'
    · rcases List.mem_cons.1 h2 with rfl | h2
      · left; simp
      · exact .inr ⟨h1, h2⟩
theorem Bk.all (h : Bk rs t vis [] x []) {u y : Nat} (k : Leads rs u y) : y = t → vis u = true := by
  induction k with
  | refl y => rintro rfl; exact h.start
  | @cons u y t' hu _ ih =>
    intro e
    rcases h.closed y (ih e) (by simp) u hu with h' | ⟨_, h'⟩
    · exact h'
    · cases h'
theorem Bk.iff (h : Bk rs t vis [] x []) (u : Nat) : vis u = true ↔ Leads rs u t := ⟨h.sound u, fun k => h.all k rfl⟩
end

def seen (es : AL) (y : Nat) : Bool := (aget es y).isSome
theorem seen_aset (es : AL) (x : Nat) (v : CV) : seen (aset es x v) = fun y => if y = x then true else seen es y := by
  funext y
  unfold seen
  rw [aget_aset]
  split <;> rfl

/-- The state: B is the memory ahead of the map of distances. -/
structure DSt (B H : Heap) (bo : Nat) (es : AL) (v : CV) (q : List Nat) (f : Nat) : Prop where
  ext : Ext B.next B H
  ok : HOk H
  o : MapIs H bo es
  lo : bo < H.next
  no : B.next ≤ bo
  iv : ∀ x v, aget es x = some v → ∃ k : Int, v = .int .i64 k
  q : FrS H v q f
  nf : B.next ≤ f
section
variable {B H H' : Heap} {bo f : Nat} {es : AL} {v : CV} {q : List Nat}
theorem DSt.step (h : DSt B H bo es v q f) (hx : Ext H.next H H') (hk : HOk H') : DSt B H' bo es v q f :=
  ⟨h.ext.trans (hx.le h.ext.1), hk, h.o.ext hx h.lo, Nat.lt_of_lt_of_le h.lo hx.1, h.no, h.iv, h.q.ext hx, h.nf⟩
theorem DSt.queue (h : DSt B H bo es v q f) {v' : CV} {q' : List Nat} {f' : Nat} (hx : Kf f f' H H') (hk : HOk H') (hq : FrS H' v' q' f') : DSt B H' bo es v' q' f' := by
  refine ⟨⟨Nat.le_trans h.ext.1 hx.1, fun b o hb ho => ?_⟩, hk, ⟨hx.2.2 _ _ h.lo (fun p e => by simp [CObj.fam] at e) h.o.get, h.o.lt⟩, Nat.lt_of_lt_of_le h.lo hx.1, h.no, h.iv, hq, ?_⟩
  · have ho' := h.ext.2 b o hb ho
    refine hx.2.2 b o (Nat.lt_of_lt_of_le hb h.ext.1) (fun p e => ?_) ho'
    have := (h.ok.fam b o f p ho' e).1
    have := h.nf; omega
  · have := h.nf; have := h.ext.1; have := hx.2.1; omega
theorem DSt.cut (h : DSt B H bo es v q f) {v' : CV} {q' : List Nat} (hq : FrS H v' q' f) : DSt B H bo es v' q' f := ⟨h.ext, h.ok, h.o, h.lo, h.no, h.iv, hq, h.nf⟩
theorem DSt.put (h : DSt B H bo es v q f) {x : Nat} {k : Int} (hx : x < 100) :
    updateC Tryz.prog 52 H (.map bo) (nm x) (.int .i64 k) = some (.tuple [], H.put bo (.map (ents 0 (aset es x (.int .i64 k))) (aset es x (.int .i64 k)).length)) ∧ DSt B (H.put bo (.map (ents 0 (aset es x (.int .i64 k))) (aset es x (.int .i64 k)).length)) bo (aset es x (.int .i64 k)) v q f := by
  obtain ⟨h1, h2⟩ := map_update (t := 52) (v := .int .i64 k) u52 h.o hx
  refine ⟨h1, h.ext.trans (Ext.put h.no), Hok.put rfl h.ok, h2, h.lo, h.no, fun y w hy => ?_, ⟨h.q.1, ?_⟩, h.nf⟩
  · rw [aget_aset] at hy
    split at hy
    · exact ⟨k, (Option.some.inj hy).symm⟩
    · exact h.iv y w hy
  · rcases h.q.2 with ⟨b, off, cs, h1, h2, h3, h4⟩ | ⟨b, off, p, pre, cap, h1, h2, h3, h4⟩
    · refine .inl ⟨b, off, cs, h1, h2, ?_, h4⟩
      rw [Heap.get_put, if_neg]
      · exact h3
      · rintro rfl; rw [h.o.get] at h3; cases h3
    · refine .inr ⟨b, off, p, pre, cap, h1, h2, ?_, h4⟩
      rw [Heap.get_put, if_neg]
      · exact h3
      · rintro rfl; rw [h.o.get] at h3; cases h3
end
end Go.Y

namespace Go.Y
open Go.K Go.Proofs
set_option linter.unusedSimpArgs false
set_option linter.unusedVariables false
set_option maxRecDepth 10000

variable {X : CallFn}

theorem dst_arc {B H : Heap} {bo x u i t : Nat} {es : AL} {v vx : CV} {q us rest : List Nat} {f : Nat} {rs : Rels} {env : Env} (h : DSt B H bo es v (x :: q) f) (hB : Bk rs t (seen es) q x (u :: rest)) (hu : u ∈ lows rs x) (hx8 : x < 8) (hu8 : u < 8) (hvx : seen es x = true) (hm : unv 8 (seen es) + q.length ≤ 200)
    (hl : Has B 1 9 vx (us.map nm)) (hi : i < us.length) (hui : us[i] = u) (h8 : env.get 8 = some (.map bo)) (h9 : env.get 9 = some v) (h53 : env.get 53 = some vx) (h55 : env.get 55 = some (.int .i64 (i : Nat))) :
    ∃ (env' : Env) (H' : Heap) (es' : AL) (v' : CV) (q' : List Nat) (f' : Nat), go Tryz.prog X 81 (sub (codeOf Tryz.f21) [true,true,true,true,false,true,false,false,true,false,false,true,false,false,true,true,false,false]) env H = some (.normal, env', H') ∧ DSt B H' bo es' v' (x :: q') f' ∧ Bk rs t (seen es') q' x rest ∧ unv 8 (seen es') + q'.length = unv 8 (seen es) + q.length ∧
      (∀ y, seen es y = true → seen es' y = true) ∧ env'.get 9 = some v' ∧ ∀ s, s < 56 → s ≠ 9 → s ≠ 11 → s ≠ 12 → s ≠ 13 → env'.get s = env.get s := by
  have hcode : sub (codeOf Tryz.f21) [true,true,true,true,false,true,false,false,true,false,false,true,false,false,true,true,false,false] = .seq (sub (codeOf Tryz.f21) [true,true,true,true,false,true,false,false,true,false,false,true,false,false,true,true,false,false,false]) (.seq (sub (codeOf Tryz.f21) [true,true,true,true,false,true,false,false,true,false,false,true,false,false,true,true,false,false,true,false]) (.seq (sub (codeOf Tryz.f21) [true,true,true,true,false,true,false,false,true,false,false,true,false,false,true,true,false,false,true,true,false]) (.cond (.tmp 66) (.seq (sub (codeOf Tryz.f21) [true,true,true,true,false,true,false,false,true,false,false,true,false,false,true,true,false,false,true,true,true,false,false]) (sub (codeOf Tryz.f21) [true,true,true,true,false,true,false,false,true,false,false,true,false,false,true,true,false,false,true,true,true,false,true])) .skip))) := rfl
  obtain ⟨b, off, cs, fam, hb, _, hidx, hget, hcells, hcell⟩ := (hl.ext h.ext hl.lt).at (P := Tryz.prog) (t := 27) u30 s9 (i := i) (by simpa using hi)
  rw [List.getElem_map, hui] at hcell
  have hc0 : cs[off]? = some (nm u) := hcell 0 _ rfl
  have hlk := map_lookup_ok (t := 52) u52 zi3 h.o (show u < 100 by omega)
  have ga : ∃ e, go Tryz.prog X 81 (.seq (sub (codeOf Tryz.f21) [true,true,true,true,false,true,false,false,true,false,false,true,false,false,true,true,false,false,false]) (.seq (sub (codeOf Tryz.f21) [true,true,true,true,false,true,false,false,true,false,false,true,false,false,true,true,false,false,true,false]) (sub (codeOf Tryz.f21) [true,true,true,true,false,true,false,false,true,false,false,true,false,false,true,true,false,false,true,true,false]))) env H = some (.normal, e, H) ∧ e.get 66 = some (.bool (!seen es u)) ∧ e.get 11 = some (nm u) ∧ ∀ s, s < 56 → s ≠ 11 → s ≠ 12 → s ≠ 13 → e.get s = env.get s := by
    simp only [codeOf, Tryz.f21, sub, go_seq, go_region, opsSeq_step, opsSeq_guard, guardStep_true, guardStep_false, guardVal, opsSeq_nil, afterStep_some, afterStep_none, stepC, kindOf, quietC, evC, Nat.reduceLT, Tr.get_set, if_true, if_false, Nat.reduceEqDiff, Option.map_some, Option.bind_some, List.getElem?_toArray, List.getElem?_cons_zero, List.getElem?_cons_succ, ofVal, decide_true, decide_false, BEq.rfl, andThen_normal, andThen_exit, andThen_ret, inBlock_normal, inBlock_ret, go_skip, go_exit, go_ret, loudStep, isCall, loudC, targetC, evs, evParts, mapO, List.nil_append, List.append_nil, List.cons_append, loadC, Heap.skip_get, Heap.get_put, Heap.skip_next, Heap.put_next, h8, h53, h55, hidx, g9, hget, hc0, hlk]
    refine ⟨_, rfl, by simp only [Tr.get_set, if_true]; rfl, by simp only [Tr.get_set, Nat.reduceEqDiff, if_false, if_true], fun t hs n1 n2 n3 => ?_⟩
    simp only [Tr.get_set, n1, n2, n3, show t ≠ 57 by omega, show t ≠ 58 by omega, show t ≠ 59 by omega, show t ≠ 60 by omega, show t ≠ 61 by omega, show t ≠ 62 by omega, show t ≠ 63 by omega, show t ≠ 64 by omega, show t ≠ 65 by omega, show t ≠ 66 by omega, if_false]
  obtain ⟨e1, ga, a66, a11, aq⟩ := ga
  cases hv : seen es u with
  | true =>
    rw [hv] at a66
    refine ⟨e1, H, es, v, q, f, ?_, h, hB.old hv, rfl, fun y hy => hy, (aq 9 (by omega) (by omega) (by omega) (by omega)).trans h9, fun s hs _ n1 n2 n3 => aq s hs n1 n2 n3⟩
    rw [go_code hcode, go_seq3, ga, andThen_normal, go_cond _ _ _ (v := false) (by simp only [evC, a66]; rfl), if_neg (by simp), go_skip]
  | false =>
    rw [hv] at a66
    obtain ⟨b2, off2, cs2, fam2, hidx2, hget2, hcell2⟩ := frs_head h.q
    obtain ⟨d, hd⟩ : ∃ d : Int, (aget es x).getD (.int .i64 0) = .int .i64 d := by
      cases e : aget es x with
      | none => exact ⟨0, rfl⟩
      | some w => exact h.iv x w e
    have hlx := map_lookup (t := 52) u52 zi3 h.o (show x < 100 by omega)
    rw [hd] at hlx
    obtain ⟨hup, h1⟩ := h.put (x := u) (k := wrap .i64 (d + 1)) (by omega)
    have hset := unv_set hu8 hv
    rw [← seen_aset es u (.int .i64 (wrap .i64 (d + 1)))] at hset
    have hN := hB.new hvx hu
    rw [← seen_aset es u (.int .i64 (wrap .i64 (d + 1)))] at hN
    have gb : ∃ e, go Tryz.prog X 81 (sub (codeOf Tryz.f21) [true,true,true,true,false,true,false,false,true,false,false,true,false,false,true,true,false,false,true,true,true,false,false]) e1 H = some (.normal, e, H.put bo (.map (ents 0 (aset es u (.int .i64 (wrap .i64 (d + 1))))) (aset es u (.int .i64 (wrap .i64 (d + 1)))).length)) ∧ ∀ s, s < 67 → e.get s = e1.get s := by
      simp only [codeOf, Tryz.f21, sub, go_seq, go_region, opsSeq_step, opsSeq_guard, guardStep_true, guardStep_false, guardVal, opsSeq_nil, afterStep_some, afterStep_none, stepC, kindOf, quietC, evC, Nat.reduceLT, Tr.get_set, if_true, if_false, Nat.reduceEqDiff, Option.map_some, Option.bind_some, List.getElem?_toArray, List.getElem?_cons_zero, List.getElem?_cons_succ, ofVal, decide_true, decide_false, BEq.rfl, andThen_normal, andThen_exit, andThen_ret, inBlock_normal, inBlock_ret, go_skip, go_exit, go_ret, loudStep, isCall, loudC, targetC, evs, evParts, mapO, List.nil_append, List.append_nil, List.cons_append, loadC, Heap.skip_get, Heap.get_put, Heap.skip_next, Heap.put_next, (aq 8 (by omega) (by omega) (by omega) (by omega)).trans h8, (aq 9 (by omega) (by omega) (by omega) (by omega)).trans h9, a11, hidx2, g9, hget2, hcell2, hlx, bin_add, hup]
      refine ⟨_, rfl, fun t hs => ?_⟩
      simp only [Tr.get_set, show t ≠ 67 by omega, show t ≠ 68 by omega, show t ≠ 69 by omega, show t ≠ 70 by omega, show t ≠ 71 by omega, show t ≠ 72 by omega, show t ≠ 73 by omega, show t ≠ 74 by omega, if_false]
    obtain ⟨e2, gb, bq⟩ := gb
    generalize hH1 : H.put bo (.map (ents 0 (aset es u (.int .i64 (wrap .i64 (d + 1))))) (aset es u (.int .i64 (wrap .i64 (d + 1)))).length) = H1 at gb h1
    generalize hH2 : (H1.skip 1).put H1.next (.cells [nm u] 9 none) = H2
    have x2 : Ext H1.next H1 H2 := by rw [← hH2]; exact Ext.skip.trans (Ext.put (Nat.le_refl _))
    have k2 : HOk H2 := by rw [← hH2]; exact Hok.put rfl (Hok.skip 1 h1.ok)
    have n2 : H2.next = H1.next + 1 := by rw [← hH2]; rfl
    have h2 := h1.step x2 k2
    obtain ⟨v', H3, f', hap, hq3, k3, kf3⟩ := frs_append (x := u) (c := H1.next) h2.q k2 (by omega) (by rw [← hH2, Heap.get_put, if_pos rfl]) (by simp only [List.length_cons]; omega)
    have h3 := h2.queue kf3 k3 hq3
    have gc : ∃ e, go Tryz.prog X 81 (sub (codeOf Tryz.f21) [true,true,true,true,false,true,false,false,true,false,false,true,false,false,true,true,false,false,true,true,true,false,true]) e2 H1 = some (.normal, e, H3) ∧ e.get 9 = some v' ∧ ∀ s, s < 67 → s ≠ 9 → e.get s = e2.get s := by
      simp only [codeOf, Tryz.f21, sub, go_seq, go_region, opsSeq_step, opsSeq_guard, guardStep_true, guardStep_false, guardVal, opsSeq_nil, afterStep_some, afterStep_none, stepC, kindOf, quietC, evC, Nat.reduceLT, Tr.get_set, if_true, if_false, Nat.reduceEqDiff, Option.map_some, Option.bind_some, List.getElem?_toArray, List.getElem?_cons_zero, List.getElem?_cons_succ, ofVal, decide_true, decide_false, BEq.rfl, andThen_normal, andThen_exit, andThen_ret, inBlock_normal, inBlock_ret, go_skip, go_exit, go_ret, loudStep, isCall, loudC, targetC, evs, evParts, mapO, List.nil_append, List.append_nil, List.cons_append, loadC, Heap.skip_get, Heap.get_put, Heap.skip_next, Heap.put_next, (bq 9 (by omega)).trans ((aq 9 (by omega) (by omega) (by omega) (by omega)).trans h9), (bq 11 (by omega)).trans a11, bs27, nm_cells, List.length_cons, List.length_nil, Nat.reduceAdd, hH2, hap]
      refine ⟨_, rfl, by simp only [Tr.get_set, if_true], fun t hs h6' => ?_⟩
      simp only [Tr.get_set, h6', show t ≠ 75 by omega, show t ≠ 76 by omega, show t ≠ 77 by omega, show t ≠ 78 by omega, if_false]
    obtain ⟨e3, gc, c9, cq⟩ := gc
    refine ⟨e3, H3, _, v', q ++ [u], f', ?_, h3, hN, by rw [List.length_append, List.length_singleton]; omega, fun y hy => ?_, c9, fun s hs n9 n1 n2 n3 => (cq s (by omega) n9).trans ((bq s (by omega)).trans (aq s hs n1 n2 n3))⟩
    · rw [go_code hcode, go_seq3, ga, andThen_normal, go_cond _ _ _ (v := true) (by simp only [evC, a66]; rfl), if_pos rfl, go_seq, gb, andThen_normal, gc]
    · rw [seen_aset]
      simp only
      split
      · rfl
      · exact hy

theorem dst_inner {B H : Heap} {bo x t : Nat} {es : AL} {v vx : CV} {q : List Nat} {f : Nat} {rs : Rels} {env : Env} (hr : rs.length ≤ 30) (hR : ∀ r ∈ rs, Right r) (h : DSt B H bo es v (x :: q) f) (hB : Bk rs t (seen es) q x (lows rs x)) (hx8 : x < 8) (hvx : seen es x = true) (hm : unv 8 (seen es) + q.length ≤ 200)
    (hl : Has B 1 9 vx ((lows rs x).map nm)) (h8 : env.get 8 = some (.map bo)) (h9 : env.get 9 = some v) (h53 : env.get 53 = some vx) (h54 : env.get 54 = some (.int .i64 ((lows rs x).length : Nat))) (h55 : env.get 55 = some (.int .i64 (0 : Nat))) :
    ∃ (env' : Env) (H' : Heap) (es' : AL) (v' : CV) (q' : List Nat) (f' : Nat), go Tryz.prog X 81 (sub (codeOf Tryz.f21) [true,true,true,true,false,true,false,false,true,false,false,true,false]) env H = some (.exit 4, env', H') ∧ DSt B H' bo es' v' (x :: q') f' ∧ Bk rs t (seen es') q' x [] ∧ unv 8 (seen es') + q'.length = unv 8 (seen es) + q.length ∧ env'.get 9 = some v' ∧ env'.get 8 = env.get 8 ∧ env'.get 5 = env.get 5 := by
  have hll := lows_length rs x
  have hL := range_loop (P := Tryz.prog) (X := X) (nt := 81) (code := sub (codeOf Tryz.f21) [true,true,true,true,false,true,false,false,true,false,false,true,false]) (hd := sub (codeOf Tryz.f21) [true,true,true,true,false,true,false,false,true,false,false,true,false,false,false]) (body := sub (codeOf Tryz.f21) [true,true,true,true,false,true,false,false,true,false,false,true,false,false,true,true,false,false]) (inc := sub (codeOf Tryz.f21) [true,true,true,true,false,true,false,false,true,false,false,true,false,false,true,true,true]) (ti := 55) (tn := 54) (tc := 56) (tx := 79) (e := 4) (b := 5) rfl (by omega)
    (fun env H i n h1 h2 => by simp only [codeOf, Tryz.f21, sub, go_seq, go_region, opsSeq_step, opsSeq_guard, guardStep_true, guardStep_false, guardVal, opsSeq_nil, afterStep_some, afterStep_none, stepC, kindOf, quietC, evC, Nat.reduceLT, Tr.get_set, if_true, if_false, Nat.reduceEqDiff, Option.map_some, Option.bind_some, List.getElem?_toArray, List.getElem?_cons_zero, List.getElem?_cons_succ, ofVal, decide_true, decide_false, BEq.rfl, andThen_normal, andThen_exit, andThen_ret, inBlock_normal, inBlock_ret, go_skip, go_exit, go_ret, loudStep, isCall, loudC, targetC, evs, evParts, mapO, List.nil_append, List.append_nil, List.cons_append, loadC, Heap.skip_get, Heap.get_put, Heap.skip_next, Heap.put_next, h1, h2, bin_lss]) (fun env H i h1 hw => by simp only [codeOf, Tryz.f21, sub, go_seq, go_region, opsSeq_step, opsSeq_guard, guardStep_true, guardStep_false, guardVal, opsSeq_nil, afterStep_some, afterStep_none, stepC, kindOf, quietC, evC, Nat.reduceLT, Tr.get_set, if_true, if_false, Nat.reduceEqDiff, Option.map_some, Option.bind_some, List.getElem?_toArray, List.getElem?_cons_zero, List.getElem?_cons_succ, ofVal, decide_true, decide_false, BEq.rfl, andThen_normal, andThen_exit, andThen_ret, inBlock_normal, inBlock_ret, go_skip, go_exit, go_ret, loudStep, isCall, loudC, targetC, evs, evParts, mapO, List.nil_append, List.append_nil, List.cons_append, loadC, Heap.skip_get, Heap.get_put, Heap.skip_next, Heap.put_next, h1, bin_add, hw]) (by omega) (n := (lows rs x).length) (by omega)
    (fun k e G => e.get 53 = some vx ∧ e.get 8 = env.get 8 ∧ e.get 5 = env.get 5 ∧ ∃ es' v' q' f', DSt B G bo es' v' (x :: q') f' ∧ Bk rs t (seen es') q' x ((lows rs x).drop k) ∧ unv 8 (seen es') + q'.length = unv 8 (seen es) + q.length ∧ seen es' x = true ∧ e.get 9 = some v') (fun _ _ => False)
    (fun k e G s w ht ⟨a32, a5, a0, es', v', q', f', r1, r2, r3, r4, a6⟩ => ⟨by rcases ht with rfl | rfl | rfl <;> simp only [Tr.get_set, Nat.reduceEqDiff, if_false, a32], by rcases ht with rfl | rfl | rfl <;> simp only [Tr.get_set, Nat.reduceEqDiff, if_false, a5], by rcases ht with rfl | rfl | rfl <;> simp only [Tr.get_set, Nat.reduceEqDiff, if_false, a0], es', v', q', f', r1, r2, r3, r4, by rcases ht with rfl | rfl | rfl <;> simp only [Tr.get_set, Nat.reduceEqDiff, if_false, a6]⟩)
    (fun k e G hk ⟨a32, a5, a0, es', v', q', f', hD, hB', hm', hv', a6⟩ h1 h2 => by
      left
      rw [List.drop_eq_getElem_cons hk] at hB'
      have hmem := List.getElem_mem hk
      have hu8 : (lows rs x)[k] < 8 := by
        obtain ⟨r, hr', _, _, e⟩ := mem_lows.1 hmem
        rw [← e]; exact (hR r hr').2.2.2.1
      obtain ⟨e2, G3, es2, v2, q2, f2, g2, d2, b2, u2, mono, c9, cq⟩ := dst_arc (X := X) hD hB' hmem hx8 hu8 hv' (by omega) hl hk rfl (a5.trans h8) a6 a32 h1
      refine ⟨.normal, e2, G3, g2, .inl rfl, ⟨(cq 53 (by omega) (by omega) (by omega) (by omega) (by omega)).trans a32, (cq 8 (by omega) (by omega) (by omega) (by omega) (by omega)).trans a5, (cq 5 (by omega) (by omega) (by omega) (by omega) (by omega)).trans a0, es2, v2, q2, f2, d2, b2, u2.trans hm', mono x hv', c9⟩, (cq 55 (by omega) (by omega) (by omega) (by omega) (by omega)).trans h1, (cq 54 (by omega) (by omega) (by omega) (by omega) (by omega)).trans h2⟩)
  rcases hL (lows rs x).length 0 env H (by omega) ⟨h53, rfl, rfl, es, v, q, f, h, by rw [List.drop_zero]; exact hB, rfl, hvx, h9⟩ h55 h54 with ⟨e, G, g, _, a5, a0, es', v', q', f', hD, hB', hm', _, a6⟩ | ⟨_, _, _, ff⟩
  · rw [List.drop_length] at hB'
    exact ⟨e, G, es', v', q', f', g, hD, hB', hm', a6, a5, a0⟩
  · exact ff.elim
end Go.Y
