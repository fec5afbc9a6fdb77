/-
  graph.Preds and graph.Idom, by fuel: plain.
-/
import Derived.Test.YtjlehpgfhlkjlaaCom
set_option linter.all false
namespace Jq
open Go Go.RowKit
/-- One block's edges are noted at their ends. -/
def prsRow (a : Nat) (row : List Int) (out : List (List Int)) : List (List Int) := row.foldl (fun out b => out.modify b.toNat (· ++ [(a : Int)])) out
def prsFrom : Nat → List (List Int) → List (List Int) → List (List Int)
  | _, [], out => out
  | a, row :: rows, out => prsFrom (a + 1) rows (prsRow a row out)
/-- graph.Preds, of rows that are clean. -/
def prsOf (rows : List (List Int)) : List (List Int) := prsFrom 0 rows (List.replicate rows.length [])
/-- Each block's place in an order; -1: none. -/
def numFrom : Nat → List Int → List Int → List Int
  | _, [], out => out
  | i, b :: l, out => numFrom (i + 1) l (out.set b.toNat (i : Int))
def numOf (n : Nat) (order : List Int) : List Int := numFrom 0 order (List.replicate n (-1))
/-- One predecessor is taken in. -/
def bestStep (out num : List Int) (f : Nat) (best a : Int) : Option Int :=
  match atI num a with
  | none => none
  | some na => if na < 0 then some best else match atI out a with
    | none => none
    | some oa => if a ≠ 0 ∧ oa < 0 then some best else if best < 0 then some a else comF out num f best a
def bestOf (out num : List Int) (f : Nat) : List Int → Int → Option Int
  | [], best => some best
  | a :: l, best => match bestStep out num f best a with
    | none => none
    | some b => bestOf out num f l b
/-- One turn over the blocks but the first one. -/
def passOf (num : List Int) (prs : List (List Int)) (f : Nat) : List Int → List Int × Bool → Option (List Int × Bool)
  | [], st => some st
  | b :: l, st => match bestOf st.1 num f (prs.getD b.toNat []) (-1) with
    | none => none
    | some best => passOf num prs f l (if st.1.getD b.toNat 0 ≠ best then (st.1.set b.toNat best, true) else st)
def idomF (num : List Int) (prs : List (List Int)) (f : Nat) (rest : List Int) : Nat → List Int → Option (List Int)
  | 0, _ => none
  | n + 1, out => match passOf num prs f rest (out, false) with
    | none => none
    | some (o, true) => idomF num prs f rest n o
    | some (o, false) => some o
/-- graph.Idom, of rows that are clean, if so many steps do. -/
def idomOf (rows : List (List Int)) (f : Nat) : Option (List Int) := idomF (numOf rows.length (orderOf rows)) (prsOf rows) f ((orderOf rows).drop 1) f (List.replicate rows.length (-1))
theorem prsRow_at (a : Nat) (row : List Int) {j : Nat} (hj : j < row.length) (out : List (List Int)) : prsRow a (row.drop j) out = prsRow a (row.drop (j + 1)) (out.modify (row[j]).toNat (· ++ [(a : Int)])) := by
  rw [List.drop_eq_getElem_cons hj]
  rfl
theorem prsRow_end (a : Nat) (row : List Int) {j : Nat} (hj : row.length ≤ j) (out : List (List Int)) : prsRow a (row.drop j) out = out := by
  rw [List.drop_eq_nil_of_le hj]
  rfl
theorem prsFrom_at (rows : List (List Int)) {j : Nat} (hj : j < rows.length) (out : List (List Int)) : prsFrom j (rows.drop j) out = prsFrom (j + 1) (rows.drop (j + 1)) (prsRow j rows[j] out) := by
  rw [List.drop_eq_getElem_cons hj, prsFrom]
theorem bestOf_at {out num : List Int} {f : Nat} {l : List Int} {j : Nat} (hj : j < l.length) {best c : Int} (h : bestOf out num f (l.drop j) best = some c) : ∃ b, bestStep out num f best l[j] = some b ∧ bestOf out num f (l.drop (j + 1)) b = some c := by
  rw [List.drop_eq_getElem_cons hj, bestOf] at h
  split at h
  · exact absurd h (by simp)
  · rename_i b hb; exact ⟨b, hb, h⟩
theorem passOf_at {num : List Int} {prs : List (List Int)} {f : Nat} {l : List Int} {j : Nat} (hj : j < l.length) {st r : List Int × Bool} (h : passOf num prs f (l.drop j) st = some r) :
    ∃ best, bestOf st.1 num f (prs.getD l[j].toNat []) (-1) = some best ∧ passOf num prs f (l.drop (j + 1)) (if st.1.getD l[j].toNat 0 ≠ best then (st.1.set l[j].toNat best, true) else st) = some r := by
  rw [List.drop_eq_getElem_cons hj, passOf] at h
  split at h
  · exact absurd h (by simp)
  · rename_i b hb; exact ⟨b, hb, h⟩
end Jq
