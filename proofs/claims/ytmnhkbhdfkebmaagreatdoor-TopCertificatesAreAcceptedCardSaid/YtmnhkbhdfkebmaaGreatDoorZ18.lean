/- Ways and cycles (plain law). What Cycle and Order give is what the checker accepts (plain law). The law: it answers true. -/
import Derived.Test.YtmnhkbhdfkebmaaGreatDoorZ17

set_option linter.unusedSimpArgs false
set_option linter.unusedVariables false

namespace Go.Z
open Go.K Go.Proofs
set_option linter.unusedSimpArgs false
set_option linter.unusedVariables false

/-- Arcs that follow each other from a unit to a unit. -/
def Linked : Nat → Arcs → Nat → Prop
  | x, [], y => x = y
  | x, a :: t, y => a.2.1 = x ∧ Linked a.2.2 t y
theorem Linked.append : ∀ {p q : Arcs} {x y z : Nat}, Linked x p y → Linked y q z → Linked x (p ++ q) z
  | [], q, x, y, z, h, k => by simp only [Linked] at h; subst h; exact k
  | a :: p, q, x, y, z, h, k => ⟨h.1, Linked.append h.2 k⟩
theorem Linked.split : ∀ {p q : Arcs} {x z : Nat}, Linked x (p ++ q) z → ∃ y, Linked x p y ∧ Linked y q z
  | [], q, x, z, h => ⟨x, rfl, h⟩
  | a :: p, q, x, z, h => by
    obtain ⟨y, h1, h2⟩ := Linked.split h.2
    exact ⟨y, ⟨h.1, h1⟩, h2⟩
theorem Way.linked {above : Int} {arcs : Arcs} {m x y : Nat} (w : Way above arcs m x y) : ∃ l : Arcs, l.length = m ∧ Linked x l y ∧ ∀ b ∈ l, b ∈ arcs ∧ above < (b.1 : Int) := by
  induction w with
  | nil x => exact ⟨[], rfl, rfl, fun b hb => by cases hb⟩
  | cons ha hi _ ih =>
    obtain ⟨l, h1, h2, h3⟩ := ih
    refine ⟨_ :: l, by simp [h1], ⟨rfl, h2⟩, fun b hb => ?_⟩
    rcases List.mem_cons.1 hb with rfl | hb
    · exact ⟨ha, hi⟩
    · exact h3 b hb
theorem Linked.way {above : Int} {arcs : Arcs} : ∀ {l : Arcs} {x y : Nat}, Linked x l y → (∀ b ∈ l, b ∈ arcs ∧ above < (b.1 : Int)) → Way above arcs l.length x y
  | [], x, y, h, _ => by simp only [Linked] at h; subst h; exact .nil x
  | a :: l, x, y, h, hl => by
    obtain ⟨h1, h2⟩ := hl a (List.mem_cons_self ..)
    rw [← h.1]
    exact .cons h1 h2 (Linked.way h.2 fun b hb => hl b (List.mem_cons_of_mem _ hb))
theorem Way.weaken {above below : Int} {arcs : Arcs} {m x y : Nat} (w : Way above arcs m x y) (h : below ≤ above) : Way below arcs m x y := by
  induction w with
  | nil x => exact .nil x
  | cons ha hi _ ih => exact .cons ha (by omega) ih

theorem min_mem : ∀ (l : Arcs), l ≠ [] → ∃ m ∈ l, ∀ b ∈ l, m.1 ≤ b.1
  | [], h => absurd rfl h
  | [a], _ => ⟨a, List.mem_cons_self .., fun b hb => by rw [List.mem_singleton.1 hb]; exact Nat.le_refl _⟩
  | a :: b :: t, _ => by
    obtain ⟨m, hm, h⟩ := min_mem (b :: t) (by simp)
    by_cases hc : a.1 ≤ m.1
    · refine ⟨a, List.mem_cons_self .., fun c hc' => ?_⟩
      rcases List.mem_cons.1 hc' with rfl | hc'
      · exact Nat.le_refl _
      · exact Nat.le_trans hc (h c hc')
    · refine ⟨m, List.mem_cons_of_mem _ hm, fun c hc' => ?_⟩
      rcases List.mem_cons.1 hc' with rfl | hc'
      · omega
      · exact h c hc'

/-- Of the shortest cycles one begins with its least arc. -/
theorem Least.good {arcs : Arcs} {k : Nat} (h : Least arcs arcs k) (hk : 0 < k) (hd : ∀ a ∈ arcs, ∀ b ∈ arcs, a.1 = b.1 → a = b) : ∃ a ∈ arcs, Good arcs k a := by
  rcases h with ⟨h0, _⟩ | ⟨_, ⟨a0, ha0, hw⟩, hmin⟩
  · omega
  obtain ⟨l0, hl1, hl2, hl3⟩ := hw.linked
  have hL : Linked a0.2.1 (a0 :: l0) a0.2.1 := ⟨rfl, hl2⟩
  have hLm : ∀ b ∈ a0 :: l0, b ∈ arcs := fun b hb => by
    rcases List.mem_cons.1 hb with rfl | hb
    · exact ha0
    · exact (hl3 b hb).1
  obtain ⟨m, hm, hmm⟩ := min_mem (a0 :: l0) (by simp)
  obtain ⟨p, q, hpq⟩ := List.append_of_mem hm
  rw [hpq] at hL
  obtain ⟨y, hp, hq⟩ := hL.split
  obtain ⟨hq1, hq2⟩ := hq
  subst hq1
  have hqp : Linked m.2.2 (q ++ p) m.2.1 := hq2.append hp
  have hlen : (q ++ p).length = k - 1 := by
    have := congrArg List.length hpq
    simp only [List.length_cons, List.length_append] at this ⊢
    omega
  have hmem : ∀ b ∈ q ++ p, b ∈ a0 :: l0 := fun b hb => by
    rw [hpq]
    rcases List.mem_append.1 hb with h | h
    · exact List.mem_append_right _ (List.mem_cons_of_mem _ h)
    · exact List.mem_append_left _ h
  have hma : m ∈ arcs := hLm m hm
  have hgt : ∀ b ∈ q ++ p, b ∈ arcs ∧ ((m.1 : Nat) : Int) < (b.1 : Int) := by
    intro b hb
    refine ⟨hLm b (hmem b hb), ?_⟩
    have hle := hmm b (hmem b hb)
    have hne : m.1 ≠ b.1 := by
      intro e
      have := hd m hma b (hLm b (hmem b hb)) e
      subst this
      obtain ⟨u, w, huw⟩ := List.append_of_mem hb
      have hqp' := hqp
      rw [huw] at hqp'
      obtain ⟨z, hu, hz⟩ := hqp'.split
      obtain ⟨hz1, _⟩ := hz
      subst hz1
      have hway : Way (-1) arcs u.length m.2.2 m.2.1 := hu.way fun c hc => ⟨hLm c (hmem c (by rw [huw]; exact List.mem_append_left _ hc)), by omega⟩
      have := hmin m hma _ hway
      have hl := congrArg List.length huw
      simp only [List.length_append, List.length_cons] at hl hlen
      omega
    omega
  refine ⟨m, hma, ?_, fun j w => ?_⟩
  · rw [← hlen]; exact hqp.way hgt
  · have := hmin m hma j (w.weaken (by omega))
    omega

/-- No arc is on a cycle. -/
def Acyclic (arcs : Arcs) : Prop := ∀ a ∈ arcs, ∀ m, ¬ Way (-1) arcs m a.2.2 a.2.1
theorem dup_split {f : Nat × Nat × Nat → Nat} : ∀ (l : Arcs), ¬ (l.map f).Nodup → ∃ p a q b r, l = p ++ a :: (q ++ b :: r) ∧ f a = f b
  | [], h => absurd List.nodup_nil h
  | a :: t, h => by
    rw [List.map_cons, List.nodup_cons] at h
    by_cases hm : f a ∈ t.map f
    · obtain ⟨b, hb, e⟩ := List.mem_map.1 hm
      obtain ⟨q, r, hqr⟩ := List.append_of_mem hb
      exact ⟨[], a, q, b, r, by rw [hqr]; rfl, e.symm⟩
    · have : ¬ (t.map f).Nodup := fun h' => h ⟨hm, h'⟩
      obtain ⟨p, a', q, b, r, e, e'⟩ := dup_split t this
      exact ⟨a :: p, a', q, b, r, by rw [e]; rfl, e'⟩
theorem KInv.full {arcs : Arcs} {n : Nat} {os : List Nat} {bf : Nat → Nat} (h : KInv arcs n os [] bf []) (hlt : ∀ a ∈ arcs, a.2.1 < n ∧ a.2.2 < n) (hac : Acyclic arcs) : ∀ y, y < n → y ∈ os := by
  intro y0 hy0
  refine Classical.byContradiction fun hno => ?_
  have pred : ∀ y, y < n → y ∉ os → ∃ a ∈ arcs, a.2.2 = y ∧ a.2.1 ∉ os := by
    intro y hy hyo
    have h1 := (h.mem y hy)
    have h2 : bf y ≠ 0 := fun e => hyo (by simpa using h1.2 e)
    have h3 := h.bfe y hy
    have h4 : 0 < rem arcs os y := by simp [cnt] at h3; omega
    obtain ⟨a, ha, hp⟩ := List.countP_pos_iff.1 h4
    simp only [decide_eq_true_eq] at hp
    exact ⟨a, ha, hp.1, hp.2⟩
  have path : ∀ j, ∃ (l : Arcs) (x : Nat), l.length = j ∧ x < n ∧ x ∉ os ∧ Linked x l y0 ∧ ∀ b ∈ l, b ∈ arcs := by
    intro j
    induction j with
    | zero => exact ⟨[], y0, rfl, hy0, hno, rfl, fun b hb => by cases hb⟩
    | succ j ih =>
      obtain ⟨l, x, h1, h2, h3, h4, h5⟩ := ih
      obtain ⟨a, ha, h6, h7⟩ := pred x h2 h3
      refine ⟨a :: l, a.2.1, by simp [h1], (hlt a ha).1, h7, ⟨rfl, by rw [h6]; exact h4⟩, fun b hb => ?_⟩
      rcases List.mem_cons.1 hb with rfl | hb
      · exact ha
      · exact h5 b hb
  obtain ⟨l, x, h1, h2, h3, h4, h5⟩ := path (n + 1)
  have hnd : ¬ (l.map fun a => a.2.1).Nodup := by
    intro hnd
    have := nodup_short n _ hnd fun z hz => by
      obtain ⟨b, hb, rfl⟩ := List.mem_map.1 hz
      exact (hlt b (h5 b hb)).1
    rw [List.length_map] at this; omega
  obtain ⟨p, a, q, b, r, e, e'⟩ := dup_split l hnd
  rw [e] at h4
  obtain ⟨z, hp, hq⟩ := h4.split
  obtain ⟨_, hq2⟩ := hq
  obtain ⟨z', hq3, hq4⟩ := hq2.split
  obtain ⟨hq5, _⟩ := hq4
  have e'' : a.2.1 = b.2.1 := e'
  rw [← hq5, ← e''] at hq3
  refine hac a (h5 a (by rw [e]; simp)) q.length (hq3.way fun c hc => ⟨h5 c (by rw [e]; simp [hc]), by omega⟩)
end Go.Z

namespace Go.Z
open Go.K Go.Proofs
set_option linter.unusedSimpArgs false
set_option linter.unusedVariables false

section
variable {ix s : Nat} {arcs : Arcs} {os : List Int}
theorem Chain.linked {x : Nat} {t : Arcs} (h : Chain ix arcs os s x t) : Linked x t s := by
  induction h with
  | nil => rfl
  | cons _ _ _ _ _ ih => exact ⟨rfl, ih⟩
theorem Chain.mem {x : Nat} {t : Arcs} (h : Chain ix arcs os s x t) : ∀ b ∈ t, b ∈ arcs := by
  induction h with
  | nil => intro b hb; cases hb
  | cons ha _ _ _ _ ih =>
    intro b hb
    rcases List.mem_cons.1 hb with rfl | hb
    · exact ha
    · exact ih b hb
theorem Chain.vals {x : Nat} {t : Arcs} (h : Chain ix arcs os s x t) : (∀ b ∈ t, 1 ≤ os.getD b.2.1 0 ∧ os.getD b.2.1 0 ≤ os.getD x 0) ∧ (t.map fun b => b.2.1).Nodup := by
  induction h with
  | nil => exact ⟨fun b hb => (by cases hb), List.nodup_nil⟩
  | cons ha hi hv h0 _ ih =>
    obtain ⟨ih1, ih2⟩ := ih
    refine ⟨fun b hb => ?_, ?_⟩
    · rcases List.mem_cons.1 hb with rfl | hb
      · omega
      · have := ih1 b hb; omega
    · rw [List.map_cons, List.nodup_cons]
      refine ⟨fun hm => ?_, ih2⟩
      obtain ⟨b, hb, e⟩ := List.mem_map.1 hm
      have := ih1 b hb
      rw [show b.2.1 = _ from e] at this
      omega
end
/-- One after the other. -/
theorem Linked.next : ∀ {t : Arcs} {x y : Nat} {a : Nat × Nat × Nat}, Linked x t y → a.2.2 = x → ∀ (i : Nat) (h : i + 1 < (a :: t).length), ((a :: t)[i + 1]).2.1 = ((a :: t)[i]).2.2
  | [], x, y, a, _, _, i, h => by simp at h
  | b :: t, x, y, a, hl, ha, 0, h => by simp only [List.getElem_cons_succ, List.getElem_cons_zero]; rw [hl.1, ha]
  | b :: t, x, y, a, hl, ha, i + 1, h => by
    have := Linked.next (a := b) hl.2 rfl i (by simpa using h)
    simpa using this
theorem Linked.last : ∀ {t : Arcs} {x y : Nat} {a : Nat × Nat × Nat}, Linked x t y → a.2.2 = x → ∀ (h : (a :: t).length - 1 < (a :: t).length), ((a :: t)[(a :: t).length - 1]).2.2 = y
  | [], x, y, a, hl, ha, h => by simp only [Linked] at hl; simp [ha, hl]
  | b :: t, x, y, a, hl, ha, h => by
    have := Linked.last (a := b) hl.2 rfl (by simp)
    simpa using this
theorem Linked.round {t : Arcs} {a : Nat × Nat × Nat} (hl : Linked a.2.2 t a.2.1) (i : Nat) (hi : i < (a :: t).length) (h' : (i + (a :: t).length - 1) % (a :: t).length < (a :: t).length) :
    ((a :: t)[(i + (a :: t).length - 1) % (a :: t).length]).2.2 = ((a :: t)[i]).2.1 := by
  cases i with
  | zero =>
    have e : (0 + (a :: t).length - 1) % (a :: t).length = (a :: t).length - 1 := by
      rw [Nat.zero_add]; exact Nat.mod_eq_of_lt (by simp)
    have := hl.last rfl (by simp : (a :: t).length - 1 < (a :: t).length)
    simp only [e, this, List.getElem_cons_zero]
  | succ i =>
    have e : (i + 1 + (a :: t).length - 1) % (a :: t).length = i := by
      rw [show i + 1 + (a :: t).length - 1 = i + (a :: t).length by omega, Nat.add_mod_right]
      exact Nat.mod_eq_of_lt (by omega)
    have := hl.next rfl i hi
    simp only [e, this]

section
variable {rs : Rels}
/-- An arc is a relation that is no correlation. -/
theorem arc_rel (hR : ∀ r ∈ rs, Right r) {a : Nat × Nat × Nat} (ha : a ∈ arcsFrom (unitsOf rs) 0 rs) : a.1 < rs.length ∧ relAt rs a.1 ∈ rs ∧ (relAt rs a.1).1 ≠ 4 ∧ a.2.1 = (unitsOf rs).idxOf (relAt rs a.1).2.2 ∧ a.2.2 = (unitsOf rs).idxOf (relAt rs a.1).2.1 := by
  obtain ⟨i, hi, h4, rfl⟩ := arcs_mem.1 ha
  simp only [arcOf, Nat.zero_add]
  rw [relAt_eq hi]
  exact ⟨hi, List.getElem_mem hi, h4, rfl, rfl⟩
theorem arc_inj (hR : ∀ r ∈ rs, Right r) : ∀ a ∈ arcsFrom (unitsOf rs) 0 rs, ∀ b ∈ arcsFrom (unitsOf rs) 0 rs, a.1 = b.1 → a = b := by
  intro a ha b hb e
  obtain ⟨_, _, _, h1, h2⟩ := arc_rel hR ha
  obtain ⟨_, _, _, h3, h4⟩ := arc_rel hR hb
  rw [e] at h1 h2
  exact Prod.ext e (Prod.ext (h1.trans h3.symm) (h2.trans h4.symm))
theorem idx_inj {us : List Nat} {x y : Nat} (hx : x ∈ us) (hy : y ∈ us) (h : us.idxOf x = us.idxOf y) : x = y := by
  have h1 := List.getElem_idxOf (List.idxOf_lt_length_of_mem hx)
  have h2 := List.getElem_idxOf (List.idxOf_lt_length_of_mem hy)
  rw [← h1, ← h2]
  simp only [h]

theorem loop_facts (hR : ∀ r ∈ rs, Right r) {a : Nat × Nat × Nat} {t : Arcs} (ha : a ∈ arcsFrom (unitsOf rs) 0 rs) (hL : Loop (arcsFrom (unitsOf rs) 0 rs) (unitsOf rs).length a t) :
    (∀ c ∈ (a :: t).map (·.1), c < rs.length ∧ (relAt rs c).1 ≠ 4) ∧
    (∀ (i : Nat) (h : i < ((a :: t).map (·.1)).length) (h' : (i + ((a :: t).map (·.1)).length - 1) % ((a :: t).map (·.1)).length < ((a :: t).map (·.1)).length), (relAt rs ((a :: t).map (·.1))[(i + ((a :: t).map (·.1)).length - 1) % ((a :: t).map (·.1)).length]).2.1 = (relAt rs ((a :: t).map (·.1))[i]).2.2) ∧
    (((a :: t).map (·.1)).map fun c => (relAt rs c).2.2).Nodup ∧ ∃ r ∈ rs, bad (unitsOf rs) r = true := by
  obtain ⟨os, hd, hc⟩ := hL
  have hmem : ∀ b ∈ a :: t, b ∈ arcsFrom (unitsOf rs) 0 rs := fun b hb => by
    rcases List.mem_cons.1 hb with rfl | hb
    · exact ha
    · exact hc.mem b hb
  have hun : ∀ b ∈ a :: t, (relAt rs b.1).2.1 ∈ unitsOf rs ∧ (relAt rs b.1).2.2 ∈ unitsOf rs := fun b hb => rel_units hR (arc_rel hR (hmem b hb)).2.1
  refine ⟨fun c hc' => ?_, fun i h h' => ?_, ?_, ?_⟩
  · obtain ⟨b, hb, rfl⟩ := List.mem_map.1 hc'
    have := arc_rel hR (hmem b hb)
    exact ⟨this.1, this.2.2.1⟩
  · have hr := hc.linked.round i (by simpa using h) (by simpa using h')
    simp only [List.getElem_map, List.length_map]
    have hi : i < (a :: t).length := by simpa using h
    have hp : (i + (a :: t).length - 1) % (a :: t).length < (a :: t).length := by simpa using h'
    have m1 := List.getElem_mem hp
    have m2 := List.getElem_mem hi
    have r1 := (arc_rel hR (hmem _ m1)).2.2.2.2
    have r2 := (arc_rel hR (hmem _ m2)).2.2.2.1
    rw [r1, r2] at hr
    exact idx_inj (hun _ m1).1 (hun _ m2).2 hr
  · have hnd : ((a :: t).map fun b => b.2.1).Nodup := by
      obtain ⟨v1, v2⟩ := hc.vals
      rw [List.map_cons, List.nodup_cons]
      refine ⟨fun hm => ?_, v2⟩
      obtain ⟨b, hb, e⟩ := List.mem_map.1 hm
      have := (v1 b hb).1
      rw [show b.2.1 = _ from e, hd.zero] at this
      omega
    rw [List.map_map]
    have he : (a :: t).map (fun b => b.2.1) = (((a :: t).map ((fun c => (relAt rs c).2.2) ∘ (·.1))).map (unitsOf rs).idxOf) := by
      rw [List.map_map]
      apply List.map_congr_left
      intro b hb
      exact (arc_rel hR (hmem b hb)).2.2.2.1
    rw [he] at hnd
    rw [List.Nodup, List.pairwise_map] at hnd
    exact hnd.imp fun h e => h (by rw [e])
  · refine Classical.byContradiction fun hno => ?_
    have hinc : ∀ b ∈ a :: t, b.2.1 < b.2.2 := by
      intro b hb
      obtain ⟨_, hm, h4, e1, e2⟩ := arc_rel hR (hmem b hb)
      have hb' : bad (unitsOf rs) (relAt rs b.1) = false := by
        cases hbb : bad (unitsOf rs) (relAt rs b.1) with
        | false => rfl
        | true => exact absurd ⟨_, hm, hbb⟩ hno
      simp only [bad, decide_eq_false_iff_not] at hb'
      have := fun h => hb' ⟨h4, h⟩
      rw [e1, e2]; omega
    have hle : ∀ (l : Arcs) (x y : Nat), Linked x l y → (∀ b ∈ l, b.2.1 < b.2.2) → x ≤ y := by
      intro l
      induction l with
      | nil => intro x y h _; simp only [Linked] at h; omega
      | cons b l ih =>
        intro x y h hl
        have h1 := hl b (List.mem_cons_self ..)
        have h2 := ih _ _ h.2 fun c hc => hl c (List.mem_cons_of_mem _ hc)
        have := h.1
        omega
    have h1 := hle t _ _ hc.linked fun b hb => hinc b (List.mem_cons_of_mem _ hb)
    have h2 := hinc a (List.mem_cons_self ..)
    omega

theorem none_acyclic (hR : ∀ r ∈ rs, Right r) {k : Nat} (hL : Least (arcsFrom (unitsOf rs) 0 rs) (arcsFrom (unitsOf rs) 0 rs) k) (hno : k = 0 ∨ ∀ a ∈ arcsFrom (unitsOf rs) 0 rs, ¬ Good (arcsFrom (unitsOf rs) 0 rs) k a) : Acyclic (arcsFrom (unitsOf rs) 0 rs) := by
  have hk : k = 0 := by
    rcases hno with h | h
    · exact h
    · refine Classical.byContradiction fun hne => ?_
      obtain ⟨a, ha, hg⟩ := hL.good (by omega) (arc_inj hR)
      exact h a ha hg
  rcases hL with ⟨_, h⟩ | ⟨h0, _⟩
  · exact h
  · omega

theorem order_facts (hR : ∀ r ∈ rs, Right r) {os : List Nat} {bf : Nat → Nat} (hI : KInv (arcsFrom (unitsOf rs) 0 rs) (unitsOf rs).length os [] bf []) (hac : Acyclic (arcsFrom (unitsOf rs) 0 rs)) :
    os.length = (unitsOf rs).length ∧ (os.map fun i => (unitsOf rs).getD i 0).Nodup ∧ (∀ r ∈ rs, r.2.1 ∈ (os.map fun i => (unitsOf rs).getD i 0) ∧ r.2.2 ∈ (os.map fun i => (unitsOf rs).getD i 0)) ∧ (∀ y ∈ (os.map fun i => (unitsOf rs).getD i 0), y < 100) ∧ ∀ r ∈ rs, bad (os.map fun i => (unitsOf rs).getD i 0) r = false := by
  have hall := hI.full (arcs_lt hR) hac
  have hnd : os.Nodup := by simpa using hI.nodup
  have hlt : ∀ x ∈ os, x < (unitsOf rs).length := fun x hx => hI.lt x (by simpa using hx)
  have hget : ∀ x, x < (unitsOf rs).length → ∃ h : x < (unitsOf rs).length, (unitsOf rs).getD x 0 = (unitsOf rs)[x] := fun x hx => ⟨hx, by rw [List.getD_eq_getElem?_getD, List.getElem?_eq_getElem hx]; rfl⟩
  have hund : (unitsOf rs).Nodup := (unitsOf_sorted rs).imp (fun h => by omega)
  have hinj : ∀ x ∈ os, ∀ y ∈ os, (unitsOf rs).getD x 0 = (unitsOf rs).getD y 0 → x = y := by
    intro x hx y hy e
    obtain ⟨h1, e1⟩ := hget x (hlt x hx)
    obtain ⟨h2, e2⟩ := hget y (hlt y hy)
    rw [e1, e2] at e
    have hs := List.pairwise_iff_getElem.1 (unitsOf_sorted rs)
    refine Classical.byContradiction fun hne => ?_
    rcases Nat.lt_or_gt_of_ne hne with h | h
    · have := hs x y h1 h2 h; omega
    · have := hs y x h2 h1 h; omega
  have hpnd : (os.map fun i => (unitsOf rs).getD i 0).Nodup := by
    rw [List.Nodup, List.pairwise_map]
    have := hnd
    rw [List.Nodup] at this
    exact List.Pairwise.imp_of_mem (fun hx hy hne e => hne (hinj _ hx _ hy e)) this
  have hidx : ∀ z ∈ unitsOf rs, (unitsOf rs).getD ((unitsOf rs).idxOf z) 0 = z := fun z hz => by
    obtain ⟨h1, e1⟩ := hget _ (List.idxOf_lt_length_of_mem hz)
    rw [e1]; exact List.getElem_idxOf h1
  have hmem : ∀ z ∈ unitsOf rs, z ∈ os.map fun i => (unitsOf rs).getD i 0 := fun z hz => List.mem_map.2 ⟨(unitsOf rs).idxOf z, hall _ (List.idxOf_lt_length_of_mem hz), hidx z hz⟩
  refine ⟨?_, hpnd, fun r hr => ⟨hmem _ (rel_units hR hr).1, hmem _ (rel_units hR hr).2⟩, fun y hy => ?_, fun r hr => ?_⟩
  · refine Nat.le_antisymm (nodup_short _ os hnd hlt) ?_
    have : (List.range (unitsOf rs).length).length ≤ os.length := by
      have hs : (List.range (unitsOf rs).length).Nodup := List.nodup_range
      have hsub : List.range (unitsOf rs).length ⊆ os := fun x hx => hall x (List.mem_range.1 hx)
      exact List.Nodup.length_le_of_subset hs hsub
    rwa [List.length_range] at this
  · obtain ⟨x, hx, rfl⟩ := List.mem_map.1 hy
    obtain ⟨h1, e1⟩ := hget x (hlt x hx)
    rw [e1]
    have := List.getElem_mem h1
    simp only [unitsOf, List.mem_filter, List.mem_range] at this
    exact this.1
  · simp only [bad, decide_eq_false_iff_not]
    rintro ⟨h4, hle⟩
    obtain ⟨i, hi, e⟩ := List.mem_iff_getElem.1 hr
    have ha : arcOf (unitsOf rs) i r ∈ arcsFrom (unitsOf rs) 0 rs := arcs_mem.2 ⟨i, hi, by rw [e]; exact h4, by rw [e, Nat.zero_add]⟩
    obtain ⟨hu1, hu2⟩ := rel_units hR hr
    have hup : (unitsOf rs).idxOf r.2.1 ∈ os := hall _ (List.idxOf_lt_length_of_mem hu1)
    obtain ⟨l1, l2, hsp⟩ := List.append_of_mem hup
    have hlo := hI.topo l1 _ l2 hsp (arcOf (unitsOf rs) i r) ha rfl
    have hlo' : (unitsOf rs).idxOf r.2.2 ∈ l1 := hlo
    -- the lower one is in the first part, the upper one is behind it
    have hps : (os.map fun i => (unitsOf rs).getD i 0) = (l1.map fun i => (unitsOf rs).getD i 0) ++ r.2.1 :: (l2.map fun i => (unitsOf rs).getD i 0) := by
      rw [hsp, List.map_append, List.map_cons, hidx _ hu1]
    rw [hps] at hle hpnd
    have hlow : r.2.2 ∈ l1.map fun i => (unitsOf rs).getD i 0 := List.mem_map.2 ⟨_, hlo', hidx _ hu2⟩
    have hnot : r.2.1 ∉ l1.map fun i => (unitsOf rs).getD i 0 := fun hm => (List.nodup_append.1 hpnd).2.2 _ hm _ (List.mem_cons_self ..) rfl
    rw [List.idxOf_append, if_neg hnot, List.idxOf_append, if_pos hlow, List.idxOf_cons_self] at hle
    have := List.idxOf_lt_length_of_mem hlow
    omega
end
end Go.Z

namespace Go.Z
open Go.K Go.Proofs
set_option linter.unusedSimpArgs false
set_option linter.unusedVariables false
set_option maxRecDepth 10000

variable {X : CallFn}

theorem right_rel (s : Nat × Nat × Nat) : Right (relOf s) := by
  simp only [Right, relOf]
  refine ⟨by omega, by omega, by omega, by split <;> omega, by split <;> omega⟩

/-- The known answers. -/
structure Knw (X : CallFn) : Prop where
  k4 : ∀ H, calls Tryz.prog X 4 [] H = some (.bool true, H)
  k5 : ∀ H, calls Tryz.prog X 5 [] H = some (.bool true, H)

theorem law_many (hX3 : ∀ a H, X 3 a H = none) (hK : Knw X) {l : CV} {vs : List CV} {H : Heap} (hl : Look H 3 l vs) (hn : 8 < vs.length) : calls Tryz.prog X 3 [l] H = some (.bool true, H) := by
  have hlen := fun G => hl.len (P := Tryz.prog) u22 G
  have h0 : (envOf [l] 0 .nil).get 0 = some l := by simp [envOf, Tr.get_set]
  have k4 := hK.k4
  have k5 := hK.k5
  have d1 : (8 : Int) < (vs.length : Int) := by omega
  have eb : (false == false) = true := rfl
  have ec : (true == true) = true := rfl
  have key : ∃ e, go Tryz.prog X 63 (codeOf Tryz.f3) (envOf [l] 0 .nil) H = some (.ret, e, H) ∧ e.get 2 = some (.bool true) := by
    simp only [codeOf, Tryz.f3, go_seq, go_region, opsSeq_step, opsSeq_guard, guardStep_true, guardStep_false, guardVal, opsSeq_nil, afterStep_some, afterStep_none, stepC, kindOf, quietC, evC, Nat.reduceLT, Tr.get_set, if_true, if_false, Nat.reduceEqDiff, Option.map_some, Option.bind_some, List.getElem?_toArray, List.getElem?_cons_zero, List.getElem?_cons_succ, ofVal, decide_true, decide_false, BEq.rfl, andThen_normal, andThen_exit, andThen_ret, inBlock_normal, inBlock_ret, go_skip, go_exit, go_ret, loudStep, isCall, loudC, targetC, evs, evParts, mapO, List.nil_append, List.append_nil, List.cons_append, loadC, Heap.skip_get, Heap.get_put, Heap.skip_next, Heap.put_next, k4, k5, h0, hlen, Bool.not_true, eb, ec, bin_gtr, d1]
    rw [go_cond _ _ _ (v := true) (by simp only [evC, Tr.get_set, if_true])]
    simp only [go_seq, go_region, opsSeq_step, opsSeq_guard, guardStep_true, guardStep_false, guardVal, opsSeq_nil, afterStep_some, afterStep_none, stepC, kindOf, quietC, evC, Nat.reduceLT, Tr.get_set, if_true, if_false, Nat.reduceEqDiff, Option.map_some, Option.bind_some, List.getElem?_toArray, List.getElem?_cons_zero, List.getElem?_cons_succ, ofVal, decide_true, decide_false, BEq.rfl, andThen_normal, andThen_exit, andThen_ret, inBlock_normal, inBlock_ret, go_skip, go_exit, go_ret, loudStep, isCall, loudC, targetC, evs, evParts, mapO, List.nil_append, List.append_nil, List.cons_append, loadC, Heap.skip_get, Heap.get_put, Heap.skip_next, Heap.put_next, k4, k5, ec]
    exact ⟨_, rfl, by simp only [Tr.get_set, if_true]⟩
  obtain ⟨e, key, e2⟩ := key
  exact calls_ret (hX3 _ _) Tryz.func3 rfl (by decide) (nt := 63) rfl key (results_one e2)

theorem law_few (hX3 : ∀ a H, X 3 a H = none) (hX : ZX X) (hK : Knw X) {l : CV} {ss : List (Nat × Nat × Nat)} {H : Heap} (hl : Look H 3 l (ss.map seenCV)) (hk : HOk H) (hn : ss.length ≤ 8) (hlt : ∀ s ∈ ss, s.1 < 256 ∧ s.2.1 < 256 ∧ s.2.2 < 256) :
    ∃ H', calls Tryz.prog X 3 [l] H = some (.bool true, H') ∧ Ext H.next H H' := by
  have hlen := fun G => hl.len (P := Tryz.prog) u22 G
  rw [List.length_map] at hlen
  have h0 : (envOf [l] 0 .nil).get 0 = some l := by simp [envOf, Tr.get_set]
  have k4 := hK.k4
  have k5 := hK.k5
  have d1 : ¬ (8 : Int) < (ss.length : Int) := by omega
  have eb : (false == false) = true := rfl
  have ec : (true == true) = true := rfl
  obtain ⟨v, H1, f, c1, own, k1, _, x1⟩ := make_ok (X := X) hX.x6 hX.unit hn hlt hl hk
  obtain ⟨rs, hrs⟩ : ∃ rs : Rels, rs = ss.map relOf := ⟨_, rfl⟩
  have hv1 : Has H1 3 42 v (rs.map relCV) := by
    have := own.has
    rw [hrs, List.map_map]
    exact this
  have hR : ∀ r ∈ rs, Right r := fun r hr => by
    rw [hrs] at hr
    obtain ⟨s, _, rfl⟩ := List.mem_map.1 hr
    exact right_rel s
  have hr30 : rs.length ≤ 30 := by rw [hrs, List.length_map]; omega
  obtain ⟨w, c, H2, c2, k2, x2, hres⟩ := cycle7_ok hX hr30 hR hv1 k1
  have hv2 := hv1.ext x2 hv1.lt
  obtain ⟨u, H3, c3, hu3, k3, x3⟩ := units8_ok hX hr30 hR hv2 k2
  have hv3 := hv2.ext x3 hv2.lt
  have ul := units_len hR
  rcases hres with ⟨rfl, k, hL, hno⟩ | ⟨rfl, a, t, hw2, ha, hloop, ht⟩
  · -- no cycle
    have hac := none_acyclic hR hL hno
    obtain ⟨y, z, H4, os, bf, c4, k4', x4, hI, hz⟩ := order11_ok hX hr30 hR hv3 k3
    obtain ⟨o1, o2, o3, o4, o5⟩ := order_facts hR hI hac
    rcases hz with ⟨hne, _⟩ | ⟨_, rfl, hy⟩
    · exact absurd o1 hne
    have hy' : Has H4 1 9 y ((os.map fun i => (unitsOf rs).getD i 0).map nm) := by rw [List.map_map]; exact hy
    obtain ⟨H5, c5, _, x5⟩ := corder_ok hX (by omega) hR (hv3.ext x4 hv3.lt) hy' k4' (by rw [List.length_map]; omega) o4 o2 o3
    have hall : (rs.all fun r => !bad (os.map fun i => (unitsOf rs).getD i 0) r) = true := List.all_eq_true.2 fun r hr => by rw [o5 r hr]; rfl
    rw [hall] at c5
    have key : ∃ e, go Tryz.prog X 63 (codeOf Tryz.f3) (envOf [l] 0 .nil) H = some (.ret, e, H5) ∧ e.get 2 = some (.bool true) := by
      simp only [codeOf, Tryz.f3, go_seq, go_region, opsSeq_step, opsSeq_guard, guardStep_true, guardStep_false, guardVal, opsSeq_nil, afterStep_some, afterStep_none, stepC, kindOf, quietC, evC, Nat.reduceLT, Tr.get_set, if_true, if_false, Nat.reduceEqDiff, Option.map_some, Option.bind_some, List.getElem?_toArray, List.getElem?_cons_zero, List.getElem?_cons_succ, ofVal, decide_true, decide_false, BEq.rfl, andThen_normal, andThen_exit, andThen_ret, inBlock_normal, inBlock_ret, go_skip, go_exit, go_ret, loudStep, isCall, loudC, targetC, evs, evParts, mapO, List.nil_append, List.append_nil, List.cons_append, loadC, Heap.skip_get, Heap.get_put, Heap.skip_next, Heap.put_next, k4, k5, h0, hlen, Bool.not_true, eb, ec, bin_gtr, d1]
      rw [go_cond _ _ _ (v := false) (by simp only [evC, Tr.get_set, if_true])]
      simp only [go_seq, go_region, opsSeq_step, opsSeq_guard, guardStep_true, guardStep_false, guardVal, opsSeq_nil, afterStep_some, afterStep_none, stepC, kindOf, quietC, evC, Nat.reduceLT, Tr.get_set, if_true, if_false, Nat.reduceEqDiff, Option.map_some, Option.bind_some, List.getElem?_toArray, List.getElem?_cons_zero, List.getElem?_cons_succ, ofVal, decide_true, decide_false, BEq.rfl, andThen_normal, andThen_exit, andThen_ret, inBlock_normal, inBlock_ret, go_skip, go_exit, go_ret, loudStep, isCall, loudC, targetC, evs, evParts, mapO, List.nil_append, List.append_nil, List.cons_append, loadC, Heap.skip_get, Heap.get_put, Heap.skip_next, Heap.put_next, Bool.false_eq_true, h0, c1, c2, bin_neq, ne_eq, not_true_eq_false]
      rw [go_cond _ _ _ (v := false) (by simp only [evC, Tr.get_set, if_true])]
      simp only [go_seq, go_region, opsSeq_step, opsSeq_guard, guardStep_true, guardStep_false, guardVal, opsSeq_nil, afterStep_some, afterStep_none, stepC, kindOf, quietC, evC, Nat.reduceLT, Tr.get_set, if_true, if_false, Nat.reduceEqDiff, Option.map_some, Option.bind_some, List.getElem?_toArray, List.getElem?_cons_zero, List.getElem?_cons_succ, ofVal, decide_true, decide_false, BEq.rfl, andThen_normal, andThen_exit, andThen_ret, inBlock_normal, inBlock_ret, go_skip, go_exit, go_ret, loudStep, isCall, loudC, targetC, evs, evParts, mapO, List.nil_append, List.append_nil, List.cons_append, loadC, Heap.skip_get, Heap.get_put, Heap.skip_next, Heap.put_next, Bool.false_eq_true, c3, bin_neq, ne_eq, not_true_eq_false]
      rw [go_cond _ _ _ (v := false) (by simp only [evC, Tr.get_set, if_true])]
      simp only [go_seq, go_region, opsSeq_step, opsSeq_guard, guardStep_true, guardStep_false, guardVal, opsSeq_nil, afterStep_some, afterStep_none, stepC, kindOf, quietC, evC, Nat.reduceLT, Tr.get_set, if_true, if_false, Nat.reduceEqDiff, Option.map_some, Option.bind_some, List.getElem?_toArray, List.getElem?_cons_zero, List.getElem?_cons_succ, ofVal, decide_true, decide_false, BEq.rfl, andThen_normal, andThen_exit, andThen_ret, inBlock_normal, inBlock_ret, go_skip, go_exit, go_ret, loudStep, isCall, loudC, targetC, evs, evParts, mapO, List.nil_append, List.append_nil, List.cons_append, loadC, Heap.skip_get, Heap.get_put, Heap.skip_next, Heap.put_next, Bool.false_eq_true]
      rw [go_cond _ _ _ (v := false) (by simp only [evC, Tr.get_set, if_true])]
      simp only [go_seq, go_region, opsSeq_step, opsSeq_guard, guardStep_true, guardStep_false, guardVal, opsSeq_nil, afterStep_some, afterStep_none, stepC, kindOf, quietC, evC, Nat.reduceLT, Tr.get_set, if_true, if_false, Nat.reduceEqDiff, Option.map_some, Option.bind_some, List.getElem?_toArray, List.getElem?_cons_zero, List.getElem?_cons_succ, ofVal, decide_true, decide_false, BEq.rfl, andThen_normal, andThen_exit, andThen_ret, inBlock_normal, inBlock_ret, go_skip, go_exit, go_ret, loudStep, isCall, loudC, targetC, evs, evParts, mapO, List.nil_append, List.append_nil, List.cons_append, loadC, Heap.skip_get, Heap.get_put, Heap.skip_next, Heap.put_next, Bool.false_eq_true, c4, bin_eql, ec, c5]
      exact ⟨_, rfl, by simp only [Tr.get_set, if_true]⟩
    obtain ⟨e, key, e2⟩ := key
    exact ⟨H5, calls_ret (hX3 _ _) Tryz.func3 rfl (by decide) (nt := 63) rfl key (results_one e2), ((((x1.trans (x2.le x1.1)).trans (x3.le (Nat.le_trans x1.1 x2.1))).trans (x4.le (Nat.le_trans x1.1 (Nat.le_trans x2.1 x3.1)))).trans (x5.le (Nat.le_trans x1.1 (Nat.le_trans x2.1 (Nat.le_trans x3.1 x4.1)))))⟩
  · -- a cycle
    obtain ⟨l1, l2, l3, r, hr, hbad⟩ := loop_facts hR ha hloop
    have hw3 : Has H3 1 3 w (((a :: t).map (·.1)).map nI) := by
      have := hw2.ext x3 hw2.lt
      rw [List.map_map]
      exact this
    obtain ⟨H4, c4, k4', x4⟩ := ccycle_ok hX (by omega) hR hv3 hw3 k3 (by rw [List.length_map, List.length_cons]; omega) (by simp) l1 l2 l3
    have hund : (unitsOf rs).Nodup := (unitsOf_sorted rs).imp (fun h => by omega)
    obtain ⟨H5, c5, _, x5⟩ := corder_ok hX (by omega) hR (hv3.ext x4 hv3.lt) (hu3.ext x4 hu3.lt) k4' (by omega) (fun y hy => by
      simp only [unitsOf, List.mem_filter, List.mem_range] at hy
      exact hy.1) hund (fun r hr => rel_units hR hr)
    have hall : (rs.all fun r => !bad (unitsOf rs) r) = false := by
      rw [Bool.eq_false_iff]
      intro h
      have := List.all_eq_true.1 h r hr
      rw [hbad] at this; cases this
    rw [hall] at c5
    have key : ∃ e, go Tryz.prog X 63 (codeOf Tryz.f3) (envOf [l] 0 .nil) H = some (.ret, e, H5) ∧ e.get 2 = some (.bool true) := by
      simp only [codeOf, Tryz.f3, go_seq, go_region, opsSeq_step, opsSeq_guard, guardStep_true, guardStep_false, guardVal, opsSeq_nil, afterStep_some, afterStep_none, stepC, kindOf, quietC, evC, Nat.reduceLT, Tr.get_set, if_true, if_false, Nat.reduceEqDiff, Option.map_some, Option.bind_some, List.getElem?_toArray, List.getElem?_cons_zero, List.getElem?_cons_succ, ofVal, decide_true, decide_false, BEq.rfl, andThen_normal, andThen_exit, andThen_ret, inBlock_normal, inBlock_ret, go_skip, go_exit, go_ret, loudStep, isCall, loudC, targetC, evs, evParts, mapO, List.nil_append, List.append_nil, List.cons_append, loadC, Heap.skip_get, Heap.get_put, Heap.skip_next, Heap.put_next, k4, k5, h0, hlen, Bool.not_true, eb, ec, bin_gtr, d1]
      rw [go_cond _ _ _ (v := false) (by simp only [evC, Tr.get_set, if_true])]
      simp only [go_seq, go_region, opsSeq_step, opsSeq_guard, guardStep_true, guardStep_false, guardVal, opsSeq_nil, afterStep_some, afterStep_none, stepC, kindOf, quietC, evC, Nat.reduceLT, Tr.get_set, if_true, if_false, Nat.reduceEqDiff, Option.map_some, Option.bind_some, List.getElem?_toArray, List.getElem?_cons_zero, List.getElem?_cons_succ, ofVal, decide_true, decide_false, BEq.rfl, andThen_normal, andThen_exit, andThen_ret, inBlock_normal, inBlock_ret, go_skip, go_exit, go_ret, loudStep, isCall, loudC, targetC, evs, evParts, mapO, List.nil_append, List.append_nil, List.cons_append, loadC, Heap.skip_get, Heap.get_put, Heap.skip_next, Heap.put_next, Bool.false_eq_true, h0, c1, c2, bin_neq, ne_eq, not_true_eq_false]
      rw [go_cond _ _ _ (v := false) (by simp only [evC, Tr.get_set, if_true])]
      simp only [go_seq, go_region, opsSeq_step, opsSeq_guard, guardStep_true, guardStep_false, guardVal, opsSeq_nil, afterStep_some, afterStep_none, stepC, kindOf, quietC, evC, Nat.reduceLT, Tr.get_set, if_true, if_false, Nat.reduceEqDiff, Option.map_some, Option.bind_some, List.getElem?_toArray, List.getElem?_cons_zero, List.getElem?_cons_succ, ofVal, decide_true, decide_false, BEq.rfl, andThen_normal, andThen_exit, andThen_ret, inBlock_normal, inBlock_ret, go_skip, go_exit, go_ret, loudStep, isCall, loudC, targetC, evs, evParts, mapO, List.nil_append, List.append_nil, List.cons_append, loadC, Heap.skip_get, Heap.get_put, Heap.skip_next, Heap.put_next, Bool.false_eq_true, c3, bin_neq, ne_eq, not_true_eq_false]
      rw [go_cond _ _ _ (v := false) (by simp only [evC, Tr.get_set, if_true])]
      simp only [go_seq, go_region, opsSeq_step, opsSeq_guard, guardStep_true, guardStep_false, guardVal, opsSeq_nil, afterStep_some, afterStep_none, stepC, kindOf, quietC, evC, Nat.reduceLT, Tr.get_set, if_true, if_false, Nat.reduceEqDiff, Option.map_some, Option.bind_some, List.getElem?_toArray, List.getElem?_cons_zero, List.getElem?_cons_succ, ofVal, decide_true, decide_false, BEq.rfl, andThen_normal, andThen_exit, andThen_ret, inBlock_normal, inBlock_ret, go_skip, go_exit, go_ret, loudStep, isCall, loudC, targetC, evs, evParts, mapO, List.nil_append, List.append_nil, List.cons_append, loadC, Heap.skip_get, Heap.get_put, Heap.skip_next, Heap.put_next, Bool.false_eq_true]
      rw [go_cond _ _ _ (v := true) (by simp only [evC, Tr.get_set, if_true])]
      simp only [go_seq, go_region, opsSeq_step, opsSeq_guard, guardStep_true, guardStep_false, guardVal, opsSeq_nil, afterStep_some, afterStep_none, stepC, kindOf, quietC, evC, Nat.reduceLT, Tr.get_set, if_true, if_false, Nat.reduceEqDiff, Option.map_some, Option.bind_some, List.getElem?_toArray, List.getElem?_cons_zero, List.getElem?_cons_succ, ofVal, decide_true, decide_false, BEq.rfl, andThen_normal, andThen_exit, andThen_ret, inBlock_normal, inBlock_ret, go_skip, go_exit, go_ret, loudStep, isCall, loudC, targetC, evs, evParts, mapO, List.nil_append, List.append_nil, List.cons_append, loadC, Heap.skip_get, Heap.get_put, Heap.skip_next, Heap.put_next, c4, c5, ec, Bool.not_false]
      exact ⟨_, rfl, by simp only [Tr.get_set, if_true]⟩
    obtain ⟨e, key, e2⟩ := key
    exact ⟨H5, calls_ret (hX3 _ _) Tryz.func3 rfl (by decide) (nt := 63) rfl key (results_one e2), ((((x1.trans (x2.le x1.1)).trans (x3.le (Nat.le_trans x1.1 x2.1))).trans (x4.le (Nat.le_trans x1.1 (Nat.le_trans x2.1 x3.1)))).trans (x5.le (Nat.le_trans x1.1 (Nat.le_trans x2.1 (Nat.le_trans x3.1 x4.1)))))⟩
end Go.Z
