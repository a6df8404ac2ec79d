/- The hooks, and leaf functions that the kernel evaluates. -/
import Derived.Test.YtmnhkbhdfkebmaaGreatY15
import Derived.Test.YtmnhkbhdfkebmaaGreatK15
import Derived.KernelRfl

set_option linter.unusedSimpArgs false
set_option linter.unusedVariables false

namespace Go.Y
open Go.K Go.Proofs
set_option linter.unusedSimpArgs false
set_option linter.unusedVariables false
set_option maxRecDepth 100000

abbrev XN : CallFn := fun _ _ _ => none
noncomputable def leafB : CallFn := plainC (callC Tryz.prog XN (run Tryz.prog XN 3000)) [15, 20, 35]
noncomputable def XB : CallFn := orC (sortK 20) leafB
/-- The hook for the known answers: it computes. -/
noncomputable def XR : CallFn := orC XB (orC (rfX Tryz.prog itY R106 (run Tryz.prog XB 3000)) (orC (rfX Tryz.prog itY R26 (run Tryz.prog XB 3000)) (knotX (run Tryz.prog XB 3000))))
/-- The hook for the law. -/
noncomputable def XF : CallFn := orC (knownC 13 (.bool true)) (orC (knownC 14 (.bool true)) (orC XB (knotX (go Tryz.prog XB))))

def isInt (n : Int) : Option (CV × Heap) → Bool
  | some (.int .i64 m, _) => m == n
  | _ => false
def isStr (l : List UInt8) : Option (CV × Heap) → Bool
  | some (.str s, _) => s.data.toList == l
  | _ => false
def isUnit : Option (CV × Heap) → Bool
  | some (.tuple [], _) => true
  | _ => false
noncomputable abbrev ev (f : Nat) (args : List CV) : Option (CV × Heap) := callC Tryz.prog XN (run Tryz.prog XN 3000) f args noHeap
theorem e15 : ((List.range 6).all fun c => isStr [UInt8.ofNat (65 + c)] (ev 15 [.int .i64 (c : Nat)])) = true := by kernel_rfl
theorem e35 : ((List.range 4).all fun k => (List.range 8).all fun a => (List.range 8).all fun b => Nat.beq a b || isInt 0 (ev 35 [.agg [.int .i64 ((k + 1 : Nat) : Int), .str ⟨#[UInt8.ofNat (65 + a)]⟩, .str ⟨#[UInt8.ofNat (65 + b)]⟩]])) = true := by kernel_rfl
theorem e20 : isUnit (ev 20 [.nilSlice]) = true := by kernel_rfl
end Go.Y
