/-
  The walk of the law MachEnds.
-/
import Derived.Test.YtjlehpgfhlkjlaaL7
import Derived.Test.YtjlehpgfhlkjlaaOpen
set_option linter.all false
namespace Go.Proofs.Ytjlehpgfhlkjlaa
open Go.RowKit Jq Go.Deep
set_option linter.unusedVariables false
theorem ends2 (a b : Int) (k : Nat) : (goesOf ⟨2, 0, 1, List.replicate (k + 1) 0, 0⟩ [a, b] == 0) = (a != 0) := by
  show ((if a ≠ 0 then (0 : Int) else 1) == 0) = (a != 0)
  by_cases h : a = 0 <;> simp [h]
theorem ends3 (a b : Int) (k : Nat) : (goesOf ⟨3, 0, 1, List.replicate (k + 1) 0, 0⟩ [a, b] == 0) = (a == b) := by
  show ((if a = b then (0 : Int) else 1) == 0) = (a == b)
  by_cases h : a = b <;> simp [h]
theorem ends4 (a b : Int) (k : Nat) : (goesOf ⟨4, 0, 1, List.replicate (k + 1) 0, 0⟩ [a, b] == 0) = decide (a < b) := by
  show ((if a < b then (0 : Int) else 1) == 0) = decide (a < b)
  by_cases h : a < b <;> simp [h]
theorem ends5 (a b : Int) (k : Nat) : (goesOf ⟨5, 0, 1, List.replicate (k + 1) 0, 0⟩ [a, b] == 0) = decide (a % 4294967296 < b % 4294967296) := by
  show ((if a % 4294967296 < b % 4294967296 then (0 : Int) else 1) == 0) = decide (a % 4294967296 < b % 4294967296)
  by_cases h : a % 4294967296 < b % 4294967296 <;> simp [h]
theorem ends01 (op : Int) (a b : Int) (k : Nat) (h : op = 2 ∨ op = 3 ∨ op = 4 ∨ op = 5) : goesOf ⟨op, 0, 1, List.replicate (k + 1) 0, 0⟩ [a, b] = 0 ∨ goesOf ⟨op, 0, 1, List.replicate (k + 1) 0, 0⟩ [a, b] = 1 := by
  unfold goesOf
  rcases h with rfl | rfl | rfl | rfl <;> simp only [Int.reduceEq, if_false, if_true] <;> split <;> simp
theorem or01 (x y : Int) (hx : x = 0 ∨ x = 1) (hy : y = 0 ∨ y = 1) : bits .or .i64 x y = 0 ∨ bits .or .i64 x y = 1 := by
  rcases hx with rfl | rfl <;> rcases hy with rfl | rfl <;> decide
theorem ends6 (a b : Int) (k : Nat) (h : a < 0 ∨ (k : Int) ≤ a) (h1 : -2147483648 ≤ a) (h2 : a ≤ 2147483647) (hk : k ≤ 64) : goesOf ⟨6, 0, 1, List.replicate (k + 1) 0, 0⟩ [a, b] = k := by
  show (if a % 4294967296 < ((List.replicate (k + 1) (0 : Int)).length : Int) - 1 then a % 4294967296 else ((List.replicate (k + 1) (0 : Int)).length : Int) - 1) = k
  rw [List.length_replicate]
  rw [if_neg (by omega)]
  omega
theorem ends6in (a b : Int) (k : Nat) (h : 0 ≤ a) (h1 : a < k) (hk : k ≤ 64) : goesOf ⟨6, 0, 1, List.replicate (k + 1) 0, 0⟩ [a, b] = a := by
  show (if a % 4294967296 < ((List.replicate (k + 1) (0 : Int)).length : Int) - 1 then a % 4294967296 else ((List.replicate (k + 1) (0 : Int)).length : Int) - 1) = a
  rw [List.length_replicate]
  rw [if_pos (by omega)]
  omega
set_option maxRecDepth 1000000 in
set_option maxHeartbeats 800000 in
theorem walkMachEnds (w : World) (a : Int) (oa : (Lit.int .i32 a).wf = true) (b : Int) (ob : (Lit.int .i32 b).wf = true) (n : Int) (on : (Lit.int .u8 n).wf = true) :
    Calls Try.prog 8 #[.int .i32 a, .int .i32 b, .int .u8 n] w fun e w' => e = .returned (.bool true) ∧ Below w.heap.size w w' := by
  obtain ⟨a1, a2⟩ := bounds_i32 oa
  obtain ⟨b1, b2⟩ := bounds_i32 ob
  obtain ⟨n1, n2⟩ := bounds_u8 on
  obtain ⟨k, hk⟩ : ∃ k : Nat, 1 + n % 64 = (k : Int) := ⟨(1 + n % 64).toNat, by omega⟩
  have hk64 : k ≤ 64 := by omega
  have hk1 : 1 ≤ k := by omega
  clear oa ob on
  obtain ⟨gx, hgx⟩ : ∃ gx : Int → Int, ∀ op, goesOf ⟨op, 0, 1, List.replicate (k + 1) 0, 0⟩ [a, b] = gx op := ⟨_, fun _ => rfl⟩
  have g2 : (gx 2 == 0) = (a != 0) := by rw [← hgx]; exact ends2 a b k
  have g3 : (gx 3 == 0) = (a == b) := by rw [← hgx]; exact ends3 a b k
  have g4 : (gx 4 == 0) = decide (a < b) := by rw [← hgx]; exact ends4 a b k
  have g5 : (gx 5 == 0) = decide (a % 4294967296 < b % 4294967296) := by rw [← hgx]; exact ends5 a b k
  have gor : decide (bits BinOp.or IntKind.i64 (bits BinOp.or IntKind.i64 (bits BinOp.or IntKind.i64 (gx 2) (gx 3)) (gx 4)) (gx 5) ≤ 1) = true := by
    have e (op : Int) (h : op = 2 ∨ op = 3 ∨ op = 4 ∨ op = 5) : gx op = 0 ∨ gx op = 1 := by rw [← hgx]; exact ends01 op a b k h
    have h := or01 _ _ (or01 _ _ (or01 _ _ (e 2 (by simp)) (e 3 (by simp))) (e 4 (by simp))) (e 5 (by simp))
    rw [decide_eq_true_iff]
    omega
  have g1 : (gx 1 == 0) = true := by rw [← hgx]; rfl
  have g7 : (gx 7 == -1) = true := by rw [← hgx]; rfl
  have g8 : (gx 8 == -1) = true := by rw [← hgx]; rfl
  have g0 : (gx 0 == -1) = true := by rw [← hgx]; rfl
  have g9 : (gx 9 == -1) = true := by rw [← hgx]; rfl
  have hgx' := Lib.hid hgx
  clear hgx
  have d6 : (a < 0 ∨ (k : Int) ≤ a → (gx 6 == (k : Int)) = true) ∧ (0 ≤ a ∧ a < k → (gx 6 == a) = true) := by
    rw [← hgx'.out]
    exact ⟨fun h => by rw [ends6 a b k h a1 a2 hk64]; simp, fun h => by rw [ends6in a b k h.1 h.2 hk64]; simp⟩
  have d6' := Lib.hid d6
  clear d6
  rcases (by omega : a < 0 ∨ (0 ≤ a ∧ a < k) ∨ (k : Int) ≤ a) with h | ⟨h, h'⟩ | h
  all_goals first
    | have d0 : decide (0 ≤ a) = false := by simp; omega
    | have d0 : decide (0 ≤ a) = true := by simp; omega
  all_goals first
    | have d1 : decide (a < (k : Int)) = true := by simp; omega
    | have d1 : decide (a < (k : Int)) = false := by simp; omega
  all_goals first
    | have d2 : (gx 6 == (k : Int)) = true := d6'.out.1 (by omega)
    | have d2 : (gx 6 == a) = true := d6'.out.2 (by omega)
  all_goals first
    | (rw [show a % 4294967296 = a from by omega] at g5)
    | skip
  all_goals
    go_enter Try.func8, Try.ntmps8
    go_wp2_with fail
    refine (l7shown _).mono ?_
    rintro e w1 ⟨rfl, hb⟩
    have HB0 := Lib.hid hb
    clear hb
    go_upto_region 7 with fail
    obtain ⟨W2, hW2⟩ : ∃ W2, W2 = w1.alloc (.cells #[.int .i32 a, .int .i32 b] 21) := ⟨_, rfl⟩
    have HC : ∀ (op : Int) (W : World), Below W2.heap.size W2 W → Calls Try.prog 36 #[.int .i64 op, .int .i64 k, .slice (some ⟨w1.heap.size, 0, none⟩) 2 2] W fun e w' => e = .returned (.int .i64 (gx op)) ∧ Below W.heap.size W w' := by
      intro op W hW
      have h := l7goes op k ⟨some ⟨w1.heap.size, 0, none⟩, 2, [a, b]⟩ W hk64 (kW.sl.below (by rw [hW2]; exact (own_lit (.int .i32) 21 0 w1 [a, b] (by simp) (by simp)).rd) hW)
      rw [← hgx'.out op]
      exact h
    have HB := Lib.hid (Below.refl W2.heap.size W2)
    have HBW := Lib.hid (show Below w.heap.size w W2 by rw [hW2]; exact bal HB0.out _)
    have HC' := Lib.hid HC
    rw [← hW2]
    clear HC hW2
    go_wp2_with (go_at_call 36; refine (HC'.out _ _ HB.out).mono ?_; rintro e w' ⟨rfl, hb⟩; have HB2 := Lib.hid (bthen HB.out hb); clear HB hb; have HB := HB2; clear HB2)
    go_ret
    exact ⟨rfl, bthen HBW.out HB.out⟩
end Go.Proofs.Ytjlehpgfhlkjlaa
