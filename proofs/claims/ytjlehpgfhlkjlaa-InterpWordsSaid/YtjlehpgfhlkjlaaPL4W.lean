/-
  The runs of InterpWords: plain.
-/
import Derived.Test.YtjlehpgfhlkjlaaL4
set_option linter.all false
namespace Jq
open Go Go.RowKit
def Fop (op : Int) : Jq.Func List := ⟨2, [⟨[], [⟨op, 2, 0, [0, 1], 0⟩], ⟨4, [2], [], 0⟩⟩]⟩
def Fw (r : Int) : Jq.Func List := ⟨2, [⟨[], [⟨18, 2, 3, [0, 1], 0⟩], ⟨4, [r], [], 0⟩⟩]⟩
def opOut (op a b : Int) : Outcome List := if (wdo op a b).isSome then ⟨1, (wdo op a b).getD 0, [], [], 2⟩ else ⟨2, -1, [], [], 1⟩
theorem run_op (op a b : Int) (h1 : op ≠ 1) (h15 : op ≠ 15) (h16 : op ≠ 16) (h17 : op ≠ 17) (h18 : op ≠ 18) : (runI (Fop op) ⟨[a, b], [], [], 2⟩ 1).map IS.out = some (opOut op a b) := by
  unfold opOut
  cases hw : wdo op a b <;> simp [runI, blocksI, Fop, phisI, nextI, inssI, IS.step, IS.stop, insI, hw, IS.words, is0, argsI, putF, termI, IS.put, IS.end_, IS.out, h1, h15, h16, h17, h18]
theorem rows_op (op : Int) : rowsOf (Fop op) = [[]] := by simp [rowsOf, Fop, Go.Proofs.Ytjlehpgfhlkjlaa.keptOf_nil]
theorem rows_w (r : Int) : rowsOf (Fw r) = [[]] := by simp [rowsOf, Fw, Go.Proofs.Ytjlehpgfhlkjlaa.keptOf_nil]
theorem right_op (op : Int) (h1 : 2 ≤ op) (h2 : op ≤ 14) : rightRows (Fop op) [[]] 4 = true := by
  have h : op = 2 ∨ op = 3 ∨ op = 4 ∨ op = 5 ∨ op = 6 ∨ op = 7 ∨ op = 8 ∨ op = 9 ∨ op = 10 ∨ op = 11 ∨ op = 12 ∨ op = 13 ∨ op = 14 := by omega
  rcases h with rfl | rfl | rfl | rfl | rfl | rfl | rfl | rfl | rfl | rfl | rfl | rfl | rfl <;> decide
theorem runs_op (op a b : Int) (h1 : 2 ≤ op) (h2 : op ≤ 14) : RunsTo (Fop op) ⟨[a, b], [], [], 2⟩ (opOut op a b) := by
  refine ⟨⟨4, 1, by rw [rows_op]; exact right_op op h1 h2, run_op op a b (by omega) (by omega) (by omega) (by omega) (by omega)⟩, by simp [smallF, Fop], ?_, by show (2 : Int) ≤ _; decide⟩
  simp [opsOk, Fop, okOp]
  omega
theorem runs_lo (a b : Int) : RunsTo (Fw 2) ⟨[a, b], [], [], 2⟩ ⟨1, wlo a b, [], [], 2⟩ := by
  refine ⟨⟨4, 1, by rw [rows_w]; decide, ?_⟩, by decide, by decide, by show (2 : Int) ≤ _; decide⟩
  simp [runI, blocksI, Fw, phisI, nextI, inssI, IS.step, IS.stop, insI, IS.words, is0, argsI, putF, termI, IS.put, IS.end_, IS.out]
theorem runs_hi (a b : Int) : RunsTo (Fw 3) ⟨[a, b, 9], [], [], 9⟩ ⟨1, whi a b, [], [], 2⟩ := by
  refine ⟨⟨4, 1, by rw [rows_w]; decide, ?_⟩, by decide, by decide, by show (9 : Int) ≤ _; decide⟩
  simp [runI, blocksI, Fw, phisI, nextI, inssI, IS.step, IS.stop, insI, IS.words, is0, argsI, putF, termI, IS.put, IS.end_, IS.out]
end Jq
