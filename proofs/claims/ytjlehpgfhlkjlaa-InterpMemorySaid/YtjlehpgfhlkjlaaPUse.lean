/-
  What check.looker.uses and check.Func come to, on the road where nothing is wrong: plain.
  Rows that are sorted already: plain.
-/
import Derived.Test.YtjlehpgfhlkjlaaPIdom
import Derived.Test.YtjlehpgfhlkjlaaUse
set_option linter.all false
namespace Jq
open Go Go.RowKit
def insLen (bs : List (Block List)) (b : Int) : Int := match bs[b.toNat]? with | some x => (x.ins.length : Int) | none => 0
section
variable (params : Int) (sites : List Site) (idom : List Int) (bs : List (Block List)) (prs : List (List Int))
def insUse (b : Nat) : Nat → List (Ins List) → Bool
  | _, [] => true
  | i, x :: xs => (x.args.all fun v => useOk params sites idom v b i) && insUse b (i + 1) xs
def phiUse (b : Nat) (p : Phi List) : Bool := decide (0 < b) && (p.ins.map In.from_ == prs.getD b []) && p.ins.all fun x => decide (0 ≤ x.from_ ∧ x.from_ < (bs.length : Int)) && useOk params sites idom x.val x.from_ (insLen bs x.from_)
def blockUse (b : Nat) (x : Block List) : Bool := x.phis.all (phiUse params sites idom bs prs b) && insUse params sites idom b 0 x.ins && x.term.args.all fun v => useOk params sites idom v b x.ins.length
def blocksUse : Nat → List (Block List) → Bool
  | _, [] => true
  | b, x :: xs => blockUse params sites idom bs prs b x && blocksUse (b + 1) xs
theorem insUse_at (b : Nat) : ∀ (xs : List (Ins List)) (i j : Nat) (x : Ins List), xs[j]? = some x → insUse params sites idom b i xs = true → ∀ v, v ∈ x.args → useOk params sites idom v b ((i + j : Nat) : Int) = true
  | [], _, _, _, h, _ => by simp at h
  | y :: ys, i, 0, x, h, hu => by
    simp at h
    subst h
    rw [insUse, Bool.and_eq_true] at hu
    intro v hv
    exact List.all_eq_true.1 hu.1 v hv
  | y :: ys, i, j + 1, x, h, hu => by
    rw [insUse, Bool.and_eq_true] at hu
    intro v hv
    have := insUse_at b ys (i + 1) j x (by simpa using h) hu.2 v hv
    rw [show i + 1 + j = i + (j + 1) by omega] at this
    exact this
theorem blocksUse_at : ∀ (xs : List (Block List)) (i j : Nat) (x : Block List), xs[j]? = some x → blocksUse params sites idom bs prs i xs = true → blockUse params sites idom bs prs (i + j) x = true
  | [], _, _, _, h, _ => by simp at h
  | y :: ys, i, 0, x, h, hu => by
    simp at h
    subst h
    rw [blocksUse, Bool.and_eq_true] at hu
    exact hu.1
  | y :: ys, i, j + 1, x, h, hu => by
    rw [blocksUse, Bool.and_eq_true] at hu
    have := blocksUse_at ys (i + 1) j x (by simpa using h) hu.2
    rw [show i + 1 + j = i + (j + 1) by omega] at this
    exact this
end
/-- A function's graph. -/
def rowsOf (f : Func List) : List (List Int) := f.blocks.map fun b => keptOf f.blocks.length b.term.to
/-- How many instructions, phis and ends. -/
def sizeFn (f : Func List) : Nat := f.blocks.length + (f.blocks.map fun b => b.phis.length + b.ins.length).sum
def rowOk (n : Int) (l : List Int) : Bool := (l.all fun b => decide (0 ≤ b ∧ b < n)) && decide (l.Pairwise (· < ·))
/-- check.Right, with the rows given, shown by so many steps. -/
def rightRows (f : Func List) (rows : List (List Int)) (fuel : Nat) : Bool :=
  decide (0 ≤ f.params ∧ f.params ≤ 4) && decide (0 < f.blocks.length ∧ f.blocks.length ≤ 512 ∧ sizeFn f ≤ 4096) && (rows.all (rowOk rows.length) && (orderOf rows).all (isB rows.length) && decide (1 ≤ (orderOf rows).length ∧ (edgesOf 0 rows).length ≤ 100000)) &&
  match blocksSites f.params f.blocks.length 0 f.blocks [], idomOf rows fuel with
    | some sites, some idom => ((List.range f.blocks.length).all fun b => (orderOf rows).contains (b : Int)) && blocksUse f.params sites idom f.blocks (prsOf rows) 0 f.blocks
    | _, _ => false
end Jq
set_option linter.all false
namespace Jq
open Go Go.RowKit
theorem keptOf_sorted (n : Int) (l : List Int) (hin : ∀ b, b ∈ l → 0 ≤ b ∧ b < n) (hs : l.Pairwise (· < ·)) : keptOf n l = l := by
  unfold keptOf
  rw [List.filter_eq_self.2 (fun b hb => by have := hin b hb; simp [isB, this.1, this.2])]
  rw [List.mergeSort_of_pairwise (hs.imp fun h => by simpa using Int.le_of_lt h)]
  refine Lib.compact_all l fun j hj => ?_
  by_cases h0 : j = 0
  · subst h0
    exact Lib.keeps_lt_one _ 0 (by omega)
  · refine Lib.keeps_pos ?_
    have h1 := List.pairwise_iff_getElem.1 hs (j - 1) j (by omega) hj (by omega)
    have e1 : l.toArray[j]! = l[j] := by simp [hj]
    have e2 : l.toArray[j - 1]! = l[j - 1] := by
      have : j - 1 < l.length := by omega
      simp [this]
    rw [e1, e2]
    omega
theorem rows_sorted (f : Func List) (h : ∀ b, b ∈ f.blocks → rowOk f.blocks.length b.term.to = true) : rowsOf f = f.blocks.map fun b => b.term.to := by
  unfold rowsOf
  refine List.map_congr_left fun b hb => ?_
  have := h b hb
  unfold rowOk at this
  rw [Bool.and_eq_true, decide_eq_true_eq] at this
  exact keptOf_sorted _ _ (fun x hx => by simpa using List.all_eq_true.1 this.1 x hx) this.2
end Jq
