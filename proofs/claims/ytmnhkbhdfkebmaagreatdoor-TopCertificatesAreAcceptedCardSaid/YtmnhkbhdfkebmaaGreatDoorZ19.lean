/- The hook, and what it answers. -/
import Derived.Test.YtmnhkbhdfkebmaaGreatDoorZ18
import Derived.Test.YtmnhkbhdfkebmaaGreatDoorK13
import Derived.KernelRfl

set_option linter.unusedSimpArgs false
set_option linter.unusedVariables false

namespace Go.Z
open Go.K Go.Proofs
set_option linter.unusedSimpArgs false
set_option linter.unusedVariables false
set_option maxRecDepth 100000

abbrev XE : CallFn := extC 122 137
noncomputable def leaf : CallFn := plainC (callC Tryz.prog XE (run Tryz.prog XE 3000)) [4, 5, 14, 28, 32, 77]
noncomputable def XZ : CallFn := orC XE (orC (sortC 32) leaf)

def isTrue : Option (CV × Heap) → Bool
  | some (.bool true, _) => true
  | _ => false
def isInt (n : Int) : Option (CV × Heap) → Bool
  | some (.int .i64 m, _) => m == n
  | _ => false
def isStr (l : List UInt8) : Option (CV × Heap) → Bool
  | some (.str s, _) => s.data.toList == l
  | _ => false
def isPair (n : Int) : Option (CV × Heap) → Bool
  | some (.tuple [.int .u64 a, .int .u64 b], _) => a == 0 && b == n
  | _ => false
def isUnit : Option (CV × Heap) → Bool
  | some (.tuple [], _) => true
  | _ => false
noncomputable abbrev ev (f : Nat) (args : List CV) : Option (CV × Heap) := callC Tryz.prog XE (run Tryz.prog XE 3000) f args noHeap
theorem e4 : isTrue (ev 4 []) = true := by kernel_rfl
theorem e5 : isTrue (ev 5 []) = true := by kernel_rfl
theorem e14 : ((List.range 256).all fun c => isStr [UInt8.ofNat (97 + c % 8)] (ev 14 [.int .u8 (c : Nat)])) = true := by kernel_rfl
theorem e28 : ((List.range 4).all fun k => (List.range 8).all fun a => (List.range 8).all fun b => Nat.beq a b || isInt 0 (ev 28 [.agg [.int .i64 ((k + 1 : Nat) : Int), .str ⟨#[UInt8.ofNat (97 + a)]⟩, .str ⟨#[UInt8.ofNat (97 + b)]⟩]])) = true := by kernel_rfl
theorem e32 : isUnit (ev 32 [.nilSlice]) = true := by kernel_rfl
theorem e77 : ((List.range 17).all fun n => isPair (n : Nat) (ev 77 [.int .u64 1, .int .u64 ((n : Nat) : Int)])) = true := by kernel_rfl
end Go.Z
