/-
  A reverse postorder, by fuel: plain.
-/
import Derived.Test.YtjlehpgfhlkjlaaGr1
set_option linter.all false
namespace Jq
open Go Go.RowKit
/-- What the walk over blocks keeps: which ones it has been at, which ones it has left. -/
abbrev DS := List Bool × List Int
def cnt (l : List Bool) : Nat := l.count false
def visitD (g : Int → DS → DS) (l : List Int) (st : DS) : DS := l.foldl (fun st b => if st.1.getD b.toNat true then st else g b st) st
def dfs (rows : List (List Int)) : Nat → Int → DS → DS
  | 0, _, st => st
  | n + 1, a, st => ((visitD (dfs rows n) (rows.getD a.toNat []) (st.1.set a.toNat true, st.2)).1, (visitD (dfs rows n) (rows.getD a.toNat []) (st.1.set a.toNat true, st.2)).2 ++ [a])
def orderOf (rows : List (List Int)) : List Int := if rows.length = 0 then [] else (dfs rows rows.length 0 (List.replicate rows.length false, [])).2.reverse
theorem cnt_set : ∀ (l : List Bool) (i : Nat), l.getD i true = false → cnt (l.set i true) + 1 = cnt l
  | [], i, h => by simp at h
  | b :: l, 0, h => by
    simp at h
    subst h
    simp [cnt]
  | b :: l, i + 1, h => by
    have ih := cnt_set l i (by simpa using h)
    simp only [cnt, List.set_cons_succ, List.count_cons] at ih ⊢
    omega
/-- What a step keeps. -/
def Good (N : Nat) (st r : DS) : Prop := r.1.length = st.1.length ∧ cnt r.1 ≤ cnt st.1 ∧ (st.2.length + cnt st.1 ≤ N → r.2.length + cnt r.1 ≤ N)
theorem Good.refl (N : Nat) (st : DS) : Good N st st := ⟨rfl, Nat.le_refl _, id⟩
theorem Good.trans {N : Nat} {a b c : DS} (h : Good N a b) (k : Good N b c) : Good N a c := ⟨k.1.trans h.1, Nat.le_trans k.2.1 h.2.1, fun x => k.2.2 (h.2.2 x)⟩
theorem visitD_good (N : Nat) (g : Int → DS → DS) (hg : ∀ b st, st.1.getD b.toNat true = false → Good N st (g b st)) (l : List Int) : ∀ st, Good N st (visitD g l st) := by
  induction l with
  | nil => exact fun st => Good.refl _ _
  | cons b l ih =>
    intro st
    show Good N st (visitD g l (if st.1.getD b.toNat true then st else g b st))
    cases h : st.1.getD b.toNat true
    · exact (hg b st h).trans (ih _)
    · exact ih st
theorem dfs_good (rows : List (List Int)) : ∀ (n N : Nat) (a : Int) (st : DS), st.1.getD a.toNat true = false → Good N st (dfs rows n a st)
  | 0, N, _, st, _ => Good.refl _ _
  | n + 1, N, a, st, h => by
    have hc := cnt_set st.1 a.toNat h
    obtain ⟨h1, h2, h3⟩ := visitD_good (N - 1) (dfs rows n) (fun b st hb => dfs_good rows n (N - 1) b st hb) (rows.getD a.toNat []) (st.1.set a.toNat true, st.2)
    refine ⟨?_, ?_, fun hx => ?_⟩
    · simp only [dfs]
      rw [h1]
      simp
    · simp only [dfs]
      simp only at h2
      omega
    · simp only [dfs, List.length_append, List.length_singleton]
      have := h3 (by simp only; omega)
      omega
theorem visitD_cons (g : Int → DS → DS) (b : Int) (l : List Int) (st : DS) : visitD g (b :: l) st = visitD g l (if st.1.getD b.toNat true then st else g b st) := rfl
theorem visitD_at (g : Int → DS → DS) (l : List Int) {j : Nat} (hj : j < l.length) (st : DS) : visitD g (l.drop j) st = visitD g (l.drop (j + 1)) (if st.1.getD l[j].toNat true then st else g l[j] st) := by
  rw [List.drop_eq_getElem_cons hj, visitD_cons]
theorem visitD_end (g : Int → DS → DS) (l : List Int) {j : Nat} (hj : l.length ≤ j) (st : DS) : visitD g (l.drop j) st = st := by
  rw [List.drop_eq_nil_of_le hj]
  rfl
end Jq
