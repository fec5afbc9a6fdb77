/-
  The runs of InterpMemory: plain.
-/
import Derived.Test.YtjlehpgfhlkjlaaL4
set_option linter.all false
namespace Jq
open Go Go.RowKit
def Fmem (imm : Int) : Jq.Func List := ⟨2, [⟨[], [⟨16, 0, 0, [0, 1], imm⟩, ⟨15, 2, 0, [0], imm⟩], ⟨4, [2], [], 0⟩⟩]⟩
def memOut (l : List Int) (a v : Int) : Outcome List := if ldOk l a then ⟨1, v, mset l a v, [], 3⟩ else ⟨2, -2, l, [], 1⟩
theorem ldOk_mset (l : List Int) (a v : Int) : ldOk (mset l a v) a = ldOk l a := by unfold ldOk; rw [mset_len]
theorem ldV_mset (l : List Int) (a v : Int) (h : ldOk l a = true) : ldV (mset l a v) a = v := by
  have h2 := (Go.Proofs.Ytjlehpgfhlkjlaa.ldOk_iff _ _).1 h
  unfold ldV
  rw [ldOk_mset, if_pos h, mset, if_pos h2, List.getD_eq_getElem?_getD, List.getElem?_set_self (by omega)]
  rfl
theorem wrap_back (a imm : Int) (ha : wrap32 a = a) : wrap32 (wrap32 (a - imm) + imm) = a := by
  have h : wrap32 (wrap32 (a - imm) + imm) = wrap32 a := by unfold wrap32; omega
  rw [h, ha]
theorem run_mem (imm a v : Int) (l : List Int) (ha : wrap32 a = a) (hl : l.length ≤ 20) : (runI (Fmem imm) ⟨[wrap32 (a - imm), v], l, [], 9⟩ 1).map IS.out = some (memOut l a v) := by
  have ht : l.take 4096 = l := List.take_of_length_le (by omega)
  have hb := wrap_back a imm ha
  unfold memOut
  cases hk : ldOk l a with
  | true =>
    have h1 := ldOk_mset l a v
    have h2 := ldV_mset l a v hk
    rw [hk] at h1
    simp [runI, blocksI, Fmem, phisI, nextI, inssI, IS.step, IS.stop, insI, IS.words, is0, argsI, putF, termI, IS.put, IS.end_, IS.out, ht, hb, hk, h1, h2]
  | false =>
    simp [runI, blocksI, Fmem, phisI, nextI, inssI, IS.step, IS.stop, insI, IS.words, is0, argsI, putF, termI, IS.put, IS.end_, IS.out, ht, hb, hk]
theorem rows_mem (imm : Int) : rowsOf (Fmem imm) = [[]] := by simp [rowsOf, Fmem, Go.Proofs.Ytjlehpgfhlkjlaa.keptOf_nil]
theorem right_mem (imm : Int) : rightRows (Fmem imm) [[]] 4 = true := by
  have h : rightRows (Fmem imm) [[]] 4 = rightRows (Fmem 0) [[]] 4 := rfl
  rw [h]
  decide
theorem runs_mem (imm a v : Int) (l : List Int) (ha : wrap32 a = a) (hl : l.length ≤ 20) : RunsTo (Fmem imm) ⟨[wrap32 (a - imm), v], l, [], 9⟩ (memOut l a v) := by
  refine ⟨⟨4, 1, by rw [rows_mem]; exact right_mem imm, run_mem imm a v l ha hl⟩, rfl, rfl, by show (9 : Int) ≤ _; decide⟩
end Jq
