/-
  graph.Preds and graph.Idom, by fuel: plain.
  A graph's edges, one after the other: plain; what a round over them keeps.
-/
import Derived.Test.YtjlehpgfhlkjlaaCom
import Derived.RangeFuncNested
set_option linter.all false
namespace Jq
open Go Go.RowKit
/-- One block's edges are noted at their ends. -/
def prsRow (a : Nat) (row : List Int) (out : List (List Int)) : List (List Int) := row.foldl (fun out b => out.modify b.toNat (· ++ [(a : Int)])) out
def prsFrom : Nat → List (List Int) → List (List Int) → List (List Int)
  | _, [], out => out
  | a, row :: rows, out => prsFrom (a + 1) rows (prsRow a row out)
/-- graph.Preds, of rows that are clean. -/
def prsOf (rows : List (List Int)) : List (List Int) := prsFrom 0 rows (List.replicate rows.length [])
/-- Each block's place in an order; -1: none. -/
def numFrom : Nat → List Int → List Int → List Int
  | _, [], out => out
  | i, b :: l, out => numFrom (i + 1) l (out.set b.toNat (i : Int))
def numOf (n : Nat) (order : List Int) : List Int := numFrom 0 order (List.replicate n (-1))
/-- One predecessor is taken in. -/
def bestStep (out num : List Int) (f : Nat) (best a : Int) : Option Int :=
  match atI num a with
  | none => none
  | some na => if na < 0 then some best else match atI out a with
    | none => none
    | some oa => if a ≠ 0 ∧ oa < 0 then some best else if best < 0 then some a else comF out num f best a
def bestOf (out num : List Int) (f : Nat) : List Int → Int → Option Int
  | [], best => some best
  | a :: l, best => match bestStep out num f best a with
    | none => none
    | some b => bestOf out num f l b
/-- One turn over the blocks but the first one. -/
def passOf (num : List Int) (prs : List (List Int)) (f : Nat) : List Int → List Int × Bool → Option (List Int × Bool)
  | [], st => some st
  | b :: l, st => match bestOf st.1 num f (prs.getD b.toNat []) (-1) with
    | none => none
    | some best => passOf num prs f l (if st.1.getD b.toNat 0 ≠ best then (st.1.set b.toNat best, true) else st)
def idomF (num : List Int) (prs : List (List Int)) (f : Nat) (rest : List Int) : Nat → List Int → Option (List Int)
  | 0, _ => none
  | n + 1, out => match passOf num prs f rest (out, false) with
    | none => none
    | some (o, true) => idomF num prs f rest n o
    | some (o, false) => some o
/-- graph.Idom, of rows that are clean, if so many steps do. -/
def idomOf (rows : List (List Int)) (f : Nat) : Option (List Int) := idomF (numOf rows.length (orderOf rows)) (prsOf rows) f ((orderOf rows).drop 1) f (List.replicate rows.length (-1))
theorem prsRow_at (a : Nat) (row : List Int) {j : Nat} (hj : j < row.length) (out : List (List Int)) : prsRow a (row.drop j) out = prsRow a (row.drop (j + 1)) (out.modify (row[j]).toNat (· ++ [(a : Int)])) := by
  rw [List.drop_eq_getElem_cons hj]
  rfl
theorem prsRow_end (a : Nat) (row : List Int) {j : Nat} (hj : row.length ≤ j) (out : List (List Int)) : prsRow a (row.drop j) out = out := by
  rw [List.drop_eq_nil_of_le hj]
  rfl
theorem prsFrom_at (rows : List (List Int)) {j : Nat} (hj : j < rows.length) (out : List (List Int)) : prsFrom j (rows.drop j) out = prsFrom (j + 1) (rows.drop (j + 1)) (prsRow j rows[j] out) := by
  rw [List.drop_eq_getElem_cons hj, prsFrom]
theorem bestOf_at {out num : List Int} {f : Nat} {l : List Int} {j : Nat} (hj : j < l.length) {best c : Int} (h : bestOf out num f (l.drop j) best = some c) : ∃ b, bestStep out num f best l[j] = some b ∧ bestOf out num f (l.drop (j + 1)) b = some c := by
  rw [List.drop_eq_getElem_cons hj, bestOf] at h
  split at h
  · exact absurd h (by simp)
  · rename_i b hb; exact ⟨b, hb, h⟩
theorem passOf_at {num : List Int} {prs : List (List Int)} {f : Nat} {l : List Int} {j : Nat} (hj : j < l.length) {st r : List Int × Bool} (h : passOf num prs f (l.drop j) st = some r) :
    ∃ best, bestOf st.1 num f (prs.getD l[j].toNat []) (-1) = some best ∧ passOf num prs f (l.drop (j + 1)) (if st.1.getD l[j].toNat 0 ≠ best then (st.1.set l[j].toNat best, true) else st) = some r := by
  rw [List.drop_eq_getElem_cons hj, passOf] at h
  split at h
  · exact absurd h (by simp)
  · rename_i b hb; exact ⟨b, hb, h⟩
end Jq
set_option linter.all false
namespace Jq
open Go Go.RowKit
def edgesOf : Nat → List (List Int) → List (Int × Int)
  | _, [] => []
  | a, row :: rows => row.map (fun b => ((a : Int), b)) ++ edgesOf (a + 1) rows
def prsE (out : List (List Int)) (p : Int × Int) : List (List Int) := out.modify p.2.toNat (· ++ [p.1])
theorem prs_edges : ∀ (rows : List (List Int)) (a : Nat) (out : List (List Int)), (edgesOf a rows).foldl prsE out = prsFrom a rows out
  | [], _, _ => rfl
  | row :: rows, a, out => by
    rw [edgesOf, List.foldl_append, prs_edges rows (a + 1), prsFrom, List.foldl_map]
    rfl
theorem edges_append (m : List (List Int)) : ∀ (l : List (List Int)) (a : Nat), edgesOf a (l ++ m) = edgesOf a l ++ edgesOf (a + l.length) m
  | [], a => by simp [edgesOf]
  | r :: l, a => by
    rw [List.cons_append, edgesOf, edgesOf, edges_append m l (a + 1), List.append_assoc, List.length_cons]
    congr 3
    omega
theorem edges_take (rows : List (List Int)) {k : Nat} (hk : k < rows.length) : edgesOf 0 (rows.take (k + 1)) = edgesOf 0 (rows.take k) ++ rows[k].map (fun b => ((k : Int), b)) := by
  rw [List.take_succ_eq_append_getElem hk, edges_append]
  simp [edgesOf, Nat.min_eq_left (Nat.le_of_lt hk)]
theorem edges_part (rows : List (List Int)) {k : Nat} (hk : k < rows.length) : ∃ post, edgesOf 0 rows = edgesOf 0 (rows.take k) ++ rows[k].map (fun b => ((k : Int), b)) ++ post := by
  rw [← edges_take rows hk]
  refine ⟨edgesOf (rows.take (k + 1)).length (rows.drop (k + 1)), ?_⟩
  have := edges_append (rows.drop (k + 1)) (rows.take (k + 1)) 0
  rw [List.take_append_drop] at this
  rw [this, Nat.zero_add]
theorem prsE_len (out : List (List Int)) (p : Int × Int) : (prsE out p).length = out.length := by simp [prsE]
/-- How long a row can be. -/
theorem prs_le : ∀ (l : List (Int × Int)) (out : List (List Int)) (b : Nat) (n : Nat), (out.getD b []).length ≤ n → ((l.foldl prsE out).getD b []).length ≤ n + l.length
  | [], out, b, n, h => h
  | p :: l, out, b, n, h => by
    rw [List.foldl_cons, List.length_cons]
    refine Nat.le_trans (prs_le l (prsE out p) b (n + 1) ?_) (by omega)
    unfold prsE
    rw [List.getD_eq_getElem?_getD, List.getElem?_modify]
    rw [List.getD_eq_getElem?_getD] at h
    cases ho : out[b]? with
    | none => simp
    | some r =>
      rw [ho] at h
      have h' : r.length ≤ n := by simpa using h
      show ((Option.map (fun a => if p.2.toNat = b then a ++ [p.1] else a) (some r)).getD []).length ≤ n + 1
      rw [Option.map_some, Option.getD_some]
      split
      · simp; omega
      · omega
/-- The rows of a slice in block g lead to these blocks. -/
def rowBk (g : Nat) (w : World) (k : Nat) : Prop := ∃ j A n c, w.cell? ⟨g, j, none⟩ = some (.slice (some A) n c) ∧ A.block = k
/-- What a round keeps: all cells but a row of rows. -/
structure KpO (g : Nat) (w w' : World) : Prop where
  size : w.heap.size ≤ w'.heap.size
  block : ∀ k o, w.heap[k]? = some o → o.isCells = true → k ≠ g → ¬ rowBk g w k → w'.heap[k]? = some o
  rows : ∀ k, rowBk g w' k → rowBk g w k ∨ w.heap.size ≤ k
theorem KpO.trans {g : Nat} {a b c : World} (h : KpO g a b) (k : KpO g b c) : KpO g a c := by
  refine ⟨Nat.le_trans h.size k.size, fun q o hq ho hg hn => ?_, fun q hq => ?_⟩
  · have e := h.block q o hq ho hg hn
    refine k.block q o e ho hg fun hr => ?_
    rcases h.rows q hr with h1 | h1
    · exact hn h1
    · have := lt_of_block hq
      omega
  · rcases k.rows q hq with h1 | h1
    · exact h.rows q h1
    · right
      have := h.size
      omega
theorem KpO.of {g : Nat} {w w' : World} (h : Below w.heap.size w w') (hg : g < w.heap.size) : KpO g w w' := by
  refine ⟨h.size, fun k o hk _ _ _ => (h.block k (lt_of_block hk)).trans hk, fun k hk => Or.inl ?_⟩
  obtain ⟨j, A, n, c, hc, hA⟩ := hk
  exact ⟨j, A, n, c, by rw [← hc]; simp only [World.cell?, h.block g hg], hA⟩
theorem KpO.put {g : Nat} (W : World) (l : Nat) (o o' : Obj) (hl : W.heap[l]? = some o) (ho : o.isCells = false) (hg : l ≠ g) : KpO g W (W.putObj l o') := by
  have hb : ∀ k, k ≠ l → (W.putObj l o').heap[k]? = W.heap[k]? := fun k hk => World.putObj_heap_other hk
  refine ⟨by simp [World.putObj], fun k q hk hq _ _ => ?_, fun k hk => Or.inl ?_⟩
  · by_cases e : k = l
    · subst e
      rw [hl] at hk
      injection hk with hk
      subst hk
      rw [ho] at hq
      exact absurd hq (by simp)
    · exact (hb k e).trans hk
  · obtain ⟨j, A, n, c, hc, hA⟩ := hk
    exact ⟨j, A, n, c, by rw [← hc]; simp only [World.cell?, hb g (Ne.symm hg)], hA⟩
end Jq
