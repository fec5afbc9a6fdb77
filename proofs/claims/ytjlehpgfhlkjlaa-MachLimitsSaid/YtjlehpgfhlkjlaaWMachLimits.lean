/-
  The walk of the law MachLimits.
-/
import Derived.Test.YtjlehpgfhlkjlaaWLimits1
import Derived.Test.YtjlehpgfhlkjlaaWLimits8
import Derived.Test.YtjlehpgfhlkjlaaOpen
set_option linter.all false
namespace Go.Proofs.Ytjlehpgfhlkjlaa
open Go.RowKit Jq Go.Deep
theorem walkMachLimits (w : World) (a : Int) (oa : (Lit.int .u8 a).wf = true) (b : Int) (ob : (Lit.int .u8 b).wf = true) :
    Calls Try.prog 7 #[.int .u8 a, .int .u8 b] w fun e w' => e = .returned (.bool true) ∧ Below w.heap.size w w' := by
  obtain ⟨a1, a2⟩ := bounds_u8 oa
  obtain ⟨b1, b2⟩ := bounds_u8 ob
  rcases (by omega : a % 9 = 0 ∨ a % 9 = 1 ∨ a % 9 = 2 ∨ a % 9 = 3 ∨ a % 9 = 4 ∨ a % 9 = 5 ∨ a % 9 = 6 ∨ a % 9 = 7 ∨ a % 9 = 8) with h | h | h | h | h | h | h | h | h
  · exact limits0 w a b _ a1 a2 b1 b2 (by omega) (by omega) h rfl
  · exact limits1 w a b _ a1 a2 b1 b2 (by omega) (by omega) h rfl
  · exact limits2 w a b _ a1 a2 b1 b2 (by omega) (by omega) h rfl
  · exact limits3 w a b _ a1 a2 b1 b2 (by omega) (by omega) h rfl
  · exact limits4 w a b _ a1 a2 b1 b2 (by omega) (by omega) h rfl
  · exact limits5 w a b _ a1 a2 b1 b2 (by omega) (by omega) h rfl
  · exact limits6 w a b _ a1 a2 b1 b2 (by omega) (by omega) h rfl
  · exact limits7 w a b _ a1 a2 b1 b2 (by omega) (by omega) h rfl
  · exact limits8 w a b _ a1 a2 b1 b2 (by omega) (by omega) h rfl
end Go.Proofs.Ytjlehpgfhlkjlaa
