/-
  Rows that are sorted already: plain.
-/
import Derived.Test.YtjlehpgfhlkjlaaPUse
set_option linter.all false
namespace Jq
open Go Go.RowKit
theorem keptOf_sorted (n : Int) (l : List Int) (hin : ∀ b, b ∈ l → 0 ≤ b ∧ b < n) (hs : l.Pairwise (· < ·)) : keptOf n l = l := by
  unfold keptOf
  rw [List.filter_eq_self.2 (fun b hb => by have := hin b hb; simp [isB, this.1, this.2])]
  rw [List.mergeSort_of_pairwise (hs.imp fun h => by simpa using Int.le_of_lt h)]
  refine Lib.compact_all l fun j hj => ?_
  by_cases h0 : j = 0
  · subst h0
    exact Lib.keeps_lt_one _ 0 (by omega)
  · refine Lib.keeps_pos ?_
    have h1 := List.pairwise_iff_getElem.1 hs (j - 1) j (by omega) hj (by omega)
    have e1 : l.toArray[j]! = l[j] := by simp [hj]
    have e2 : l.toArray[j - 1]! = l[j - 1] := by
      have : j - 1 < l.length := by omega
      simp [this]
    rw [e1, e2]
    omega
theorem rows_sorted (f : Func List) (h : ∀ b, b ∈ f.blocks → rowOk f.blocks.length b.term.to = true) : rowsOf f = f.blocks.map fun b => b.term.to := by
  unfold rowsOf
  refine List.map_congr_left fun b hb => ?_
  have := h b hb
  unfold rowOk at this
  rw [Bool.and_eq_true, decide_eq_true_eq] at this
  exact keptOf_sorted _ _ (fun x hx => by simpa using List.all_eq_true.1 this.1 x hx) this.2
end Jq
