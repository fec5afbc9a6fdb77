/-
  What the program's functions come to, as plain functions of numbers and lists. No program in sight.
-/
import Derived.WalkKit
set_option linter.all false
namespace Jq
open Go Go.RowKit

theorem bal {w W : World} (h : Below w.heap.size w W) (o : Obj) : Below w.heap.size w (W.alloc o) := h.alloc h.size o
theorem bset {w W : World} (h : Below w.heap.size w W) (p : Addr) (u : Value) (hp : w.heap.size ≤ p.block) : Below w.heap.size w (W.setCell p u) := h.setCell hp u
theorem bthen {w w1 w2 : World} (h : Below w.heap.size w w1) (k : Below w1.heap.size w1 w2) : Below w.heap.size w w2 := h.trans (k.mono h.size)

/-! ### Package word -/
/-- word.Do: none: false is told. -/
def wdo (op a b : Int) : Option Int :=
  if op = 2 then some (wrap32 (a + b)) else
  if op = 3 then some (wrap32 (a - b)) else
  if op = 4 then some (wrap32 (a * b)) else
  if op = 5 then some (bits .and .i32 a b) else
  if op = 6 then some (bits .or .i32 a b) else
  if op = 7 then some (bits .xor .i32 a b) else
  if op = 8 then some (wrap32 (a * 2 ^ (b % 32).toNat)) else
  if op = 9 then some (wrap32 (a % 4294967296 / 2 ^ (b % 32).toNat)) else
  if op = 10 then some (a / 2 ^ (b % 32).toNat) else
  if op = 11 then some (if a = b then 1 else 0) else
  if op = 12 then some (if a < b then 1 else 0) else
  if op = 13 then some (if a % 4294967296 < b % 4294967296 then 1 else 0) else
  if op = 14 then (if b = 0 then none else some (wrap32 (a.tdiv b))) else none
theorem wdo_none {op : Int} (a b : Int) (h : op < 2 ∨ 14 < op) : wdo op a b = none := by
  unfold wdo
  repeat rw [if_neg (by omega)]
/-- word.Wide: the lower half, the upper one. -/
def wlo (a b : Int) : Int := wrap32 (wrap64 (wrap64 a * wrap64 b))
def whi (a b : Int) : Int := wrap32 (wrap64 (wrap64 a * wrap64 b) / 4294967296)
/-- word.Fits, of 16 and of 8 bits. -/
def fits (n : Nat) (a : Int) : Bool := decide (-(2 ^ (n - 1) : Int) ≤ a ∧ a < 2 ^ (n - 1))

/-! ### Where a row has something first -/
def idxFrom {α : Type} (p : α → Bool) (k : Nat) (l : List α) : Int :=
  match (l.drop k).findIdx? p with
  | some i => ((k + i : Nat) : Int)
  | none => -1
def idx {α : Type} (p : α → Bool) (l : List α) : Int := idxFrom p 0 l
theorem idxFrom_end {α : Type} (p : α → Bool) (k : Nat) (l : List α) (h : l.length ≤ k) : idxFrom p k l = -1 := by
  simp [idxFrom, List.drop_eq_nil_of_le h]
theorem idxFrom_yes {α : Type} (p : α → Bool) (k : Nat) (l : List α) (h : k < l.length) (hp : p l[k] = true) : idxFrom p k l = k := by
  unfold idxFrom
  rw [List.drop_eq_getElem_cons h, List.findIdx?_cons, hp]
  simp
theorem idxFrom_no {α : Type} (p : α → Bool) (k : Nat) (l : List α) (h : k < l.length) (hp : p l[k] = false) : idxFrom p k l = idxFrom p (k + 1) l := by
  unfold idxFrom
  rw [List.drop_eq_getElem_cons h, List.findIdx?_cons, hp]
  cases (l.drop (k + 1)).findIdx? p with
  | none => simp
  | some i => simp; omega
theorem idx_ge {α : Type} (p : α → Bool) (l : List α) : decide (0 ≤ idx p l) = l.any p := by
  unfold idx idxFrom
  simp only [List.drop_zero, Nat.zero_add]
  cases h : l.findIdx? p with
  | none =>
    rw [List.findIdx?_eq_none_iff] at h
    simp only [show decide ((0 : Int) ≤ -1) = false from rfl]
    rw [eq_comm, List.any_eq_false]
    intro x hx
    simpa using h x hx
  | some i =>
    have hi := (List.findIdx?_eq_some_iff_getElem.1 h)
    obtain ⟨hlt, hp, _⟩ := hi
    simp only [show decide ((0 : Int) ≤ ((i : Nat) : Int)) = true from by simp]
    rw [eq_comm, List.any_eq_true]
    exact ⟨_, List.getElem_mem hlt, hp⟩
end Jq
