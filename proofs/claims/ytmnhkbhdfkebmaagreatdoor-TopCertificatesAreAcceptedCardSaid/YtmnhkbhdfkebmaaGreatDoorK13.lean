/- Two functions of the library without a body, as a hook: counting and finding a byte. -/
import Derived.Test.YtmnhkbhdfkebmaaGreatDoorK12
import Derived.Laws.Sem

set_option linter.unusedSimpArgs false
set_option linter.unusedVariables false

namespace Go.K
set_option linter.unusedSimpArgs false
set_option linter.unusedVariables false

def countI (s : ByteArray) (c : Int) : Int := s.foldl (fun n x => if x == c.toNat.toUInt8 then n + 1 else n) (0 : Nat)
def indexI (s : ByteArray) (c : Int) : Int := match (List.range s.size).find? fun i => s[i]! == c.toNat.toUInt8 with
  | some i => (i : Nat)
  | none => -1
def extC (fc fi : Nat) : CallFn := fun f args H =>
  match args with
  | [.str s, .int .u8 c] => match Nat.beq f fc with
    | true => some (.int .i64 (countI s c), H)
    | false => match Nat.beq f fi with
      | true => some (.int .i64 (indexI s c), H)
      | false => none
  | _ => none

structure ExtIs (P : Program) (f : Nat) (e : Array Value → Sem Value) : Prop where
  fn : ∃ fn, P.funcs[f]? = some fn ∧ (fn.name == "runtime.NumGoroutine") = false ∧ fn.body.isNone = true ∧ Extern.findNext fn = none ∧ Extern.find fn = some e

theorem ext_run {P : Program} {f : Nat} {e : Array Value → Sem Value} {as : Array Value} {w : World} {v : Value} (h : ExtIs P f e) (he : (e as).run P w = .ok v w) : (callFunc f as).run P w = .ok (.value v) w := by
  obtain ⟨fn, h1, h2, h3, h4, h5⟩ := h.fn
  simp only [callFunc, Sem.run_bind, run_program, Result.andThen_ok, h1, h2, h3, h4, h5, run_mark, Bool.false_eq_true, if_false, if_true, he, Sem.run_pure]

theorem extC_ok {P : Program} {fc fi : Nat} (hc : ExtIs P fc Extern.BytealgCount.count) (hi : ExtIs P fi Extern.BytealgIndexByte.indexByte) : CallOK P (extC fc fi) := by
  intro f args H r H' h
  unfold extC at h
  split at h
  · rename_i s c
    have hv : ∀ {η : Eta} {vs : List Value}, CV.vals η [.str s, .int .u8 c] = some vs → vs = [.string s, .int .u8 c] := by
      intro η vs hvs
      simp [CV.vals, CV.val] at hvs
      exact hvs.symm
    split at h
    · rename_i hf
      have := Nat.eq_of_beq_eq_true hf
      subst this
      simp only [Option.some.injEq, Prod.mk.injEq] at h
      obtain ⟨rfl, rfl⟩ := h
      refine ⟨Grows.refl _, fun η w vs hH hvs => .inr ⟨.int .i64 (countI s c), w, ext_run hc ?_, η, _, rfl, rfl, hH, Keeps.refl ..⟩⟩
      rw [hv hvs]
      rfl
    · split at h
      · rename_i hf
        have := Nat.eq_of_beq_eq_true hf
        subst this
        simp only [Option.some.injEq, Prod.mk.injEq] at h
        obtain ⟨rfl, rfl⟩ := h
        refine ⟨Grows.refl _, fun η w vs hH hvs => .inr ⟨.int .i64 (indexI s c), w, ext_run hi ?_, η, _, rfl, rfl, hH, Keeps.refl ..⟩⟩
        rw [hv hvs]
        show (match (List.range s.size).find? fun i => s[i]! == c.toNat.toUInt8 with
          | some i => (pure (goInt i) : Sem Value)
          | none => pure (goInt (-1))).run P w = _
        unfold indexI
        cases (List.range s.size).find? fun i => s[i]! == c.toNat.toUInt8 with
        | none => rfl
        | some i => rfl
      · cases h
  · cases h
theorem extC_hok (fc fi : Nat) : CallHok (extC fc fi) := by
  intro f args H r H' h
  unfold extC at h
  split at h
  · split at h
    · simp only [Option.some.injEq, Prod.mk.injEq] at h; rw [← h.2]; exact Hok.refl _
    · split at h
      · simp only [Option.some.injEq, Prod.mk.injEq] at h; rw [← h.2]; exact Hok.refl _
      · cases h
  · cases h
end Go.K
