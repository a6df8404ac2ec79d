/- Drawn regions: operations with guards. Loops over a range of numbers. Appending to a slice that is full and whose capacity is known. -/
import Derived.Test.YtmnhkbhdfkebmaaGreatK11

set_option linter.unusedSimpArgs false
set_option linter.unusedVariables false

namespace Go.K
set_option linter.unusedSimpArgs false
set_option linter.unusedVariables false
section
variable {P : Program} {nt : Nat} {env : Env} {H : Heap} {call : CallFn} {ops : Array Oper} {base : Nat}
/-- A guarded step: carried out, or left out. -/
def guardDS (nt : Nat) (dst : Option Nat) (s : DS) (x : Option DS) : Option Bool → Option DS
  | some true => x
  | some false => setDS nt dst s (some (.tuple []))
  | none => none
theorem guardDS_true (dst : Option Nat) (s : DS) (x : Option DS) : guardDS nt dst s x (some true) = x := rfl
theorem guardDS_false (dst : Option Nat) (s : DS) (x : Option DS) : guardDS nt dst s x (some false) = setDS nt dst s (some (.tuple [])) := rfl
theorem drawStep_guard {i lev t j : Nat} {w : Bool} {op : Op} {dst : Option Nat} {pos : String} {af : Array Edge} {reads : List Nat} {hs : List Heap} {grp : List (Nat × CObj)} :
    drawStep call P nt ops base ⟨i, lev, ⟨dst, op, t, pos, af, some (j, w)⟩, reads, false⟩ ⟨env, H :: hs, grp⟩ = guardDS nt dst ⟨env, H :: hs, grp⟩ (drawStep call P nt ops base ⟨i, lev, ⟨dst, op, t, pos, af, none⟩, reads, false⟩ ⟨env, H :: hs, grp⟩) (guardVal ops env j w) := by
  have hw : wantedC ops env ⟨dst, op, t, pos, af, some (j, w)⟩ = guardVal ops env j w := by
    simp only [wantedC, guardVal, Array.getElem?_toList]
    cases (ops[j]?).bind (·.dst) with
    | none => rfl
    | some t => rfl
  simp only [drawStep, hw]
  cases guardVal ops env j w with
  | none => rfl
  | some b =>
    cases b with
    | true => simp only [guardDS, wantedC]
    | false =>
      simp only [guardDS, setDS]
      cases putC nt env dst (.tuple []) with
      | none => rfl
      | some e => rfl
end
end Go.K

namespace Go.K
set_option linter.unusedSimpArgs false
set_option linter.unusedVariables false
section
variable {P : Program} {X : CallFn} {nt : Nat}

theorem range_loop {code hd body inc : Code} {ti tn tc tx e b : Nat} (hcode : code = .loop (.seq hd (.seq (.cond (.tmp tc) .skip (.exit e)) (.seq (.block b body) inc)))) (heb : e ≠ b)
    (hhd : ∀ (env : Env) (H : Heap) (i n : Nat), env.get ti = some (.int .i64 (i : Int)) → env.get tn = some (.int .i64 (n : Int)) → go P X nt hd env H = some (.normal, env.set tc (.bool (decide ((i : Int) < (n : Int)))), H))
    (hinc : ∀ (env : Env) (H : Heap) (i : Nat), env.get ti = some (.int .i64 (i : Int)) → wrap .i64 ((i : Int) + 1) = ((i + 1 : Nat) : Int) → go P X nt inc env H = some (.normal, (env.set tx (.int .i64 ((i + 1 : Nat) : Int))).set ti (.int .i64 ((i + 1 : Nat) : Int)), H))
    (hd1 : ti ≠ tc ∧ tn ≠ tc ∧ tn ≠ ti ∧ tn ≠ tx) {n : Nat} (hn : n < 1000000) (Inv : Nat → Env → Heap → Prop) (Q : Env → Heap → Prop)
    (hset : ∀ i env H t v, (t = tc ∨ t = tx ∨ t = ti) → Inv i env H → Inv i (env.set t v) H)
    (hbody : ∀ i env H, i < n → Inv i env H → env.get ti = some (.int .i64 (i : Int)) → env.get tn = some (.int .i64 (n : Int)) →
      (∃ r env' H', go P X nt body env H = some (r, env', H') ∧ (r = .normal ∨ r = .exit b) ∧ Inv (i + 1) env' H' ∧ env'.get ti = some (.int .i64 (i : Int)) ∧ env'.get tn = some (.int .i64 (n : Int))) ∨ ∃ env' H', go P X nt body env H = some (.ret, env', H') ∧ Q env' H') :
    ∀ (k i : Nat) (env : Env) (H : Heap), i + k = n → Inv i env H → env.get ti = some (.int .i64 (i : Int)) → env.get tn = some (.int .i64 (n : Int)) →
      (∃ env' H', go P X nt code env H = some (.exit e, env', H') ∧ Inv n env' H') ∨ ∃ env' H', go P X nt code env H = some (.ret, env', H') ∧ Q env' H' := by
  obtain ⟨d1, d2, d3, d4⟩ := hd1
  intro k
  induction k with
  | zero =>
    intro i env H hik hi h1 h2
    have : i = n := by omega
    subst this
    left
    refine ⟨env.set tc (.bool false), H, ?_, hset _ _ _ _ _ (.inl rfl) hi⟩
    rw [hcode, go_loop, go_seq, hhd env H i i h1 h2, andThen_normal, go_seq]
    rw [show decide ((i : Int) < (i : Int)) = false by simp]
    rw [go_cond _ _ _ (v := false) (by simp only [evC, Tr.get_set, if_true])]
    simp only [Bool.false_eq_true, if_false, go_exit, andThen_exit]
  | succ k ih =>
    intro i env H hik hi h1 h2
    have hlt : (i : Int) < (n : Int) := by omega
    have hw : wrap .i64 ((i : Int) + 1) = ((i + 1 : Nat) : Int) := wrap64 (by omega) (by omega)
    have hgo : go P X nt code env H = (andThen (inBlock b (go P X nt body (env.set tc (.bool true)) H)) fun env H => andThen (go P X nt inc env H) fun env H => go P X nt code env H) := by
      rw [hcode, go_loop, ← hcode, go_seq, hhd env H i n h1 h2, andThen_normal, go_seq]
      rw [show decide ((i : Int) < (n : Int)) = true by simp; omega]
      rw [go_cond _ _ _ (v := true) (by simp only [evC, Tr.get_set, if_true])]
      simp only [if_true, go_skip, andThen_normal, go_seq, go_block]
      cases inBlock b (go P X nt body (env.set tc (.bool true)) H) with
      | none => rfl
      | some x =>
        obtain ⟨r, e1, H1⟩ := x
        cases r <;> rfl
    have h1' : (env.set tc (.bool true)).get ti = some (.int .i64 (i : Int)) := by simp only [Tr.get_set, d1, if_false, h1]
    have h2' : (env.set tc (.bool true)).get tn = some (.int .i64 (n : Int)) := by simp only [Tr.get_set, d2, if_false, h2]
    rcases hbody i (env.set tc (.bool true)) H (by omega) (hset _ _ _ _ _ (.inl rfl) hi) h1' h2' with ⟨r, env', H', g, hr, hI, g1, g2⟩ | ⟨env', H', g, hq⟩
    · have hin : inBlock b (go P X nt body (env.set tc (.bool true)) H) = some (.normal, env', H') := by
        rw [g]
        rcases hr with rfl | rfl
        · rw [inBlock_normal]
        · rw [inBlock_exit, if_pos rfl]
      rw [hin, andThen_normal, hinc env' H' i g1 hw, andThen_normal] at hgo
      rw [hgo]
      exact ih (i + 1) _ H' (by omega) (hset _ _ _ _ _ (.inr (.inr rfl)) (hset _ _ _ _ _ (.inr (.inl rfl)) hI)) (by simp only [Tr.get_set, if_true]) (by simp only [Tr.get_set, d3, d4, if_false, g2])
    · right
      rw [g, inBlock_ret, andThen_ret] at hgo
      exact ⟨env', H', hgo, hq⟩
end
end Go.K

namespace Go.K
set_option linter.unusedSimpArgs false
set_option linter.unusedVariables false

theorem append_exact {P : Program} {H : Heap} {sz e t0 t1 b : Nat} {x : CV} {vs ys : List CV} {i : TypeInfo} {z : List CV} {d : TypeDesc} (h : Has H sz e (.slice b 0 vs.length (.exact vs.length)) vs) (hk : HOk H)
    (hx : elemsC H sz x = some (ys.length, ys.flatMap CV.cells)) (hy : ∀ y ∈ ys, y.cells.length = sz) (hy0 : ys ≠ []) (h0 : P.underlying t0 = some (.slice e)) (h1 : P.underlying t1 = some d) (h1' : ∀ k, d ≠ .int k)
    (hi : P.info? e = some i) (hsz : i.size = sz) (hsz0 : 0 < sz) (hz : zeroC P e = some z) (hzl : z.length = sz) (hsingle : (ys.flatMap CV.cells).all CV.single = true)
    (hroom : 2 * (vs.length + ys.length) * i.bytes ≤ 140737488355328) (hroom' : vs.length + ys.length ≤ 140737488355328) :
    ∃ v' H', appendC P t0 t1 H (.slice b 0 vs.length (.exact vs.length)) x = some (v', H') ∧ v' ≠ .nilSlice ∧ Own H' H.next sz e v' (vs ++ ys) ∧ HOk H' ∧ H'.next = H.next + 1 ∧ Ext H.next H H' := by
  have hl : ∀ x ∈ vs ++ ys, x.cells.length = sz := fun x hx => by rcases List.mem_append.1 hx with hx | hx; exact h.1 x hx; exact hy x hx
  obtain ⟨sz', rfl⟩ : ∃ s, sz = s + 1 := ⟨sz - 1, by omega⟩
  obtain ⟨m, hm⟩ : ∃ m, ys.length = m + 1 := ⟨ys.length - 1, by have := List.length_pos_iff.2 hy0; omega⟩
  have hel := h.elems
  have hap : appendC P t0 t1 H (.slice b 0 vs.length (.exact vs.length)) x = some (growNew H e (vs.length + ys.length) (sz' + 1) (vs.flatMap CV.cells ++ ys.flatMap CV.cells)) := by
    unfold appendC
    rw [h0, h1]
    cases d with
    | int k => exact absurd rfl (h1' k)
    | _ =>
      simp only [hi, hsz, hz, hx, Option.bind_some, beq_t hzl, hsingle, Bool.and_self, tailOf, roomC, ble_t (Nat.le_refl vs.length)]
      rw [ble_f (by omega), ble_t hroom, ble_t hroom']
      simp only [Bool.and_self, hel, Option.map_some]
  refine ⟨_, _, hap, (by intro e; cases e), ⟨hl, .inr ⟨H.next, 0, by simp [List.length_append], by simp [hy0], Nat.lt_succ_self _, Nat.le_refl _, ?_⟩⟩, ?_, rfl, Nat.le_succ _, fun b o hb ho => ?_⟩
  · show (H.newF _).get H.next = _
    rw [Heap.newF_get, if_pos rfl, List.flatMap_append]
  · exact Hok.newF (fun f' p' e => by simp only [CObj.fam, Option.some.injEq, Prod.mk.injEq] at e; omega) hk
  · show (H.newF _).get b = _
    rw [Heap.newF_get, if_neg (by omega)]; exact ho
end Go.K
