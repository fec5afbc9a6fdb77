/-
  A graph's edges, one after the other: plain; what a round over them keeps.
-/
import Derived.Test.YtjlehpgfhlkjlaaPIdom
import Derived.RangeFuncNested
set_option linter.all false
namespace Jq
open Go Go.RowKit
def edgesOf : Nat → List (List Int) → List (Int × Int)
  | _, [] => []
  | a, row :: rows => row.map (fun b => ((a : Int), b)) ++ edgesOf (a + 1) rows
def prsE (out : List (List Int)) (p : Int × Int) : List (List Int) := out.modify p.2.toNat (· ++ [p.1])
theorem prs_edges : ∀ (rows : List (List Int)) (a : Nat) (out : List (List Int)), (edgesOf a rows).foldl prsE out = prsFrom a rows out
  | [], _, _ => rfl
  | row :: rows, a, out => by
    rw [edgesOf, List.foldl_append, prs_edges rows (a + 1), prsFrom, List.foldl_map]
    rfl
theorem edges_append (m : List (List Int)) : ∀ (l : List (List Int)) (a : Nat), edgesOf a (l ++ m) = edgesOf a l ++ edgesOf (a + l.length) m
  | [], a => by simp [edgesOf]
  | r :: l, a => by
    rw [List.cons_append, edgesOf, edgesOf, edges_append m l (a + 1), List.append_assoc, List.length_cons]
    congr 3
    omega
theorem edges_take (rows : List (List Int)) {k : Nat} (hk : k < rows.length) : edgesOf 0 (rows.take (k + 1)) = edgesOf 0 (rows.take k) ++ rows[k].map (fun b => ((k : Int), b)) := by
  rw [List.take_succ_eq_append_getElem hk, edges_append]
  simp [edgesOf, Nat.min_eq_left (Nat.le_of_lt hk)]
theorem edges_part (rows : List (List Int)) {k : Nat} (hk : k < rows.length) : ∃ post, edgesOf 0 rows = edgesOf 0 (rows.take k) ++ rows[k].map (fun b => ((k : Int), b)) ++ post := by
  rw [← edges_take rows hk]
  refine ⟨edgesOf (rows.take (k + 1)).length (rows.drop (k + 1)), ?_⟩
  have := edges_append (rows.drop (k + 1)) (rows.take (k + 1)) 0
  rw [List.take_append_drop] at this
  rw [this, Nat.zero_add]
theorem prsE_len (out : List (List Int)) (p : Int × Int) : (prsE out p).length = out.length := by simp [prsE]
/-- How long a row can be. -/
theorem prs_le : ∀ (l : List (Int × Int)) (out : List (List Int)) (b : Nat) (n : Nat), (out.getD b []).length ≤ n → ((l.foldl prsE out).getD b []).length ≤ n + l.length
  | [], out, b, n, h => h
  | p :: l, out, b, n, h => by
    rw [List.foldl_cons, List.length_cons]
    refine Nat.le_trans (prs_le l (prsE out p) b (n + 1) ?_) (by omega)
    unfold prsE
    rw [List.getD_eq_getElem?_getD, List.getElem?_modify]
    rw [List.getD_eq_getElem?_getD] at h
    cases ho : out[b]? with
    | none => simp
    | some r =>
      rw [ho] at h
      have h' : r.length ≤ n := by simpa using h
      show ((Option.map (fun a => if p.2.toNat = b then a ++ [p.1] else a) (some r)).getD []).length ≤ n + 1
      rw [Option.map_some, Option.getD_some]
      split
      · simp; omega
      · omega
/-- The rows of a slice in block g lead to these blocks. -/
def rowBk (g : Nat) (w : World) (k : Nat) : Prop := ∃ j A n c, w.cell? ⟨g, j, none⟩ = some (.slice (some A) n c) ∧ A.block = k
/-- What a round keeps: all cells but a row of rows. -/
structure KpO (g : Nat) (w w' : World) : Prop where
  size : w.heap.size ≤ w'.heap.size
  block : ∀ k o, w.heap[k]? = some o → o.isCells = true → k ≠ g → ¬ rowBk g w k → w'.heap[k]? = some o
  rows : ∀ k, rowBk g w' k → rowBk g w k ∨ w.heap.size ≤ k
theorem KpO.trans {g : Nat} {a b c : World} (h : KpO g a b) (k : KpO g b c) : KpO g a c := by
  refine ⟨Nat.le_trans h.size k.size, fun q o hq ho hg hn => ?_, fun q hq => ?_⟩
  · have e := h.block q o hq ho hg hn
    refine k.block q o e ho hg fun hr => ?_
    rcases h.rows q hr with h1 | h1
    · exact hn h1
    · have := lt_of_block hq
      omega
  · rcases k.rows q hq with h1 | h1
    · exact h.rows q h1
    · right
      have := h.size
      omega
theorem KpO.of {g : Nat} {w w' : World} (h : Below w.heap.size w w') (hg : g < w.heap.size) : KpO g w w' := by
  refine ⟨h.size, fun k o hk _ _ _ => (h.block k (lt_of_block hk)).trans hk, fun k hk => Or.inl ?_⟩
  obtain ⟨j, A, n, c, hc, hA⟩ := hk
  exact ⟨j, A, n, c, by rw [← hc]; simp only [World.cell?, h.block g hg], hA⟩
theorem KpO.put {g : Nat} (W : World) (l : Nat) (o o' : Obj) (hl : W.heap[l]? = some o) (ho : o.isCells = false) (hg : l ≠ g) : KpO g W (W.putObj l o') := by
  have hb : ∀ k, k ≠ l → (W.putObj l o').heap[k]? = W.heap[k]? := fun k hk => World.putObj_heap_other hk
  refine ⟨by simp [World.putObj], fun k q hk hq _ _ => ?_, fun k hk => Or.inl ?_⟩
  · by_cases e : k = l
    · subst e
      rw [hl] at hk
      injection hk with hk
      subst hk
      rw [ho] at hq
      exact absurd hq (by simp)
    · exact (hb k e).trans hk
  · obtain ⟨j, A, n, c, hc, hA⟩ := hk
    exact ⟨j, A, n, c, by rw [← hc]; simp only [World.cell?, hb g (Ne.symm hg)], hA⟩
end Jq
