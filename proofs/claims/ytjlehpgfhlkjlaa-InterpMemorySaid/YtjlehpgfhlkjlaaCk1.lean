/-
  Package check's small functions, on the road where nothing is wrong: within, must, operands, makes, shapes, looker.make, looker.once.
-/
import Derived.Test.YtjlehpgfhlkjlaaMap
import Derived.Test.YtjlehpgfhlkjlaaEv
import Derived.Laws.EntriesVeiled
import Derived.Lib.Hide
import Derived.Deep.RegionHeld3
set_option linter.all false
namespace Jq
open Go Go.RowKit
/-- A map's entry is laid, or turned. -/
def putE (l : List (Int × Value)) (n : Int) (v : Value) : List (Int × Value) :=
  match l with
  | [] => [(n, v)]
  | (k, x) :: l => if n = k then (k, v) :: l else (k, x) :: putE l n v
theorem lk_putE (l : List (Int × Value)) (n : Int) (v : Value) (m : Int) : lk (putE l n v) m = if m = n then some v else lk l m := by
  induction l with
  | nil => simp [putE, lk]
  | cons x l ih =>
    obtain ⟨k, y⟩ := x
    by_cases h : n = k
    · subst h
      simp only [putE, if_pos rfl, lk]
      by_cases h2 : m = n
      · subst h2; simp [lk]
      · simp [lk, h2]
    · simp only [putE, if_neg h, lk, ih]
      by_cases h2 : m = k
      · subst h2; rw [if_pos rfl, if_pos rfl, if_neg (Ne.symm h)]
      · rw [if_neg h2, if_neg h2]
theorem putE_new (l : List (Int × Value)) (n : Int) (v : Value) (h : lk l n = none) : putE l n v = l ++ [(n, v)] := by
  induction l with
  | nil => rfl
  | cons x l ih =>
    obtain ⟨k, y⟩ := x
    rw [lk] at h
    split at h
    · exact absurd h (by simp)
    · rename_i hk
      rw [putE, if_neg hk, ih h]; rfl
theorem putE_len (l : List (Int × Value)) (n : Int) (v : Value) : (putE l n v).length ≤ l.length + 1 := by
  induction l with
  | nil => simp [putE]
  | cons x l ih =>
    obtain ⟨k, y⟩ := x
    rw [putE]
    split <;> simp <;> omega
/-- What insMakes: an instruction's numbers. -/
def insMakesOf (op dst two : Int) : List Int := if op = 16 then [] else if op = 18 then [dst, two] else [dst]
def insMakes (x : Ins List) : List Int := insMakesOf x.op x.dst x.two
/-- How many operands. -/
def opLo (op : Int) : Int := if op = 1 then 0 else if op = 15 then 1 else if op = 17 then 0 else 2
def opHi (op : Int) : Int := if op = 1 then 0 else if op = 15 then 1 else if op = 17 then 4 else 2
end Jq
namespace Go.Proofs.Ytjlehpgfhlkjlaa
open Go.RowKit Jq
set_option linter.unusedVariables false
set_option maxHeartbeats 800000 in
/-- 'check.within'. -/
theorem ckWithin (n a b : Int) (w : World) : Calls Try.prog 129 #[.int .i64 n, .int .i64 a, .int .i64 b] w fun e w' => e = .returned (.bool (decide (a ≤ n ∧ n ≤ b))) ∧ w = w' := by
  by_cases h1 : a ≤ n
  · by_cases h2 : n ≤ b
    · go_enter Try.func129, Try.ntmps129
      go_wp2
      go_ret
      exact ⟨by rw [decide_eq_true ⟨h1, h2⟩]; rfl, rfl⟩
    · go_enter Try.func129, Try.ntmps129
      go_wp2
      go_ret
      exact ⟨by rw [decide_eq_false (by omega)]; rfl, rfl⟩
  · have h2 : n < a := by omega
    go_enter Try.func129, Try.ntmps129
    go_wp2
    go_ret
    exact ⟨by rw [decide_eq_false (by omega)]; rfl, rfl⟩
set_option maxHeartbeats 800000 in
/-- 'check.must', of what is so. -/
theorem ckMust (e b p : Int) (w : World) : Calls Try.prog 128 #[.bool true, .int .i64 e, .int .i64 b, .int .i64 p] w fun en w' => en = .returned (.tuple #[]) ∧ w = w' := by
  go_enter Try.func128, Try.ntmps128
  go_wp2
  go_end0
  exact ⟨rfl, rfl⟩
set_option maxHeartbeats 800000 in
/-- 'check.operands'. -/
theorem ckOperands (op : Int) (w : World) : Calls Try.prog 139 #[.int .i64 op] w fun e w' => e = .returned (.tuple #[.int .i64 (opLo op), .int .i64 (opHi op)]) ∧ w = w' := by
  by_cases h1 : op = 1
  · subst h1
    go_enter Try.func139, Try.ntmps139
    go_wp2
    go_ret2
    exact ⟨rfl, rfl⟩
  by_cases h2 : op = 15
  · subst h2
    go_enter Try.func139, Try.ntmps139
    go_wp2
    go_ret2
    exact ⟨rfl, rfl⟩
  by_cases h3 : op = 17
  · subst h3
    go_enter Try.func139, Try.ntmps139
    go_wp2
    go_ret2
    exact ⟨rfl, rfl⟩
  · have d1 : (op == 1) = false := by simpa using h1
    have d2 : (op == 15) = false := by simpa using h2
    have d3 : (op == 17) = false := by simpa using h3
    have e1 : opLo op = 2 := by unfold opLo; rw [if_neg h1, if_neg h2, if_neg h3]
    have e2 : opHi op = 2 := by unfold opHi; rw [if_neg h1, if_neg h2, if_neg h3]
    rw [e1, e2]
    clear e1 e2 h1 h2 h3
    go_enter Try.func139, Try.ntmps139
    go_wp2
    go_ret2
    exact ⟨rfl, rfl⟩
set_option maxRecDepth 100000 in
set_option maxHeartbeats 800000 in
/-- 'check.makes'. -/
theorem ckMakes (x : Ins Sl) (w : World) : Calls Try.prog 140 #[x.v] w (RetSl kI 3 w (insMakes x.p)) := by
  have e0 : insMakes x.p = insMakesOf x.op x.dst x.two := rfl
  by_cases h1 : x.op = 16
  · have d1 : (x.op == 16) = true := by simpa using h1
    rw [e0, insMakesOf, if_pos h1]
    clear h1 e0
    go_enter Try.func140, Try.ntmps140
    go_wp2
    go_ret
    exact nil_ret _ _ (bal (Below.refl _ _) _)
  by_cases h2 : x.op = 18
  · have d1 : (x.op == 16) = false := by simpa using h1
    have d2 : (x.op == 18) = true := by simpa using h2
    rw [e0, insMakesOf, if_neg h1, if_pos h2]
    clear h1 h2 e0
    go_enter Try.func140, Try.ntmps140
    go_wp2
    go_ret
    exact lit_ret _ _ [x.dst, x.two] _ (by simp) (bal (Below.refl _ _) _) (by simp)
  · have d1 : (x.op == 16) = false := by simpa using h1
    have d2 : (x.op == 18) = false := by simpa using h2
    rw [e0, insMakesOf, if_neg h1, if_neg h2]
    clear h1 h2 e0
    go_enter Try.func140, Try.ntmps140
    go_wp2
    go_ret
    exact lit_ret _ _ [x.dst] _ (by simp) (bal (Below.refl _ _) _) (by simp)
end Go.Proofs.Ytjlehpgfhlkjlaa
