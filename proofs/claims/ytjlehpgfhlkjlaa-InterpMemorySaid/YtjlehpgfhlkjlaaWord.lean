/-
  Package word: bit, Do, Wide, Fits: what each call answers.
-/
import Derived.Test.YtjlehpgfhlkjlaaRows
import Derived.Test.YtjlehpgfhlkjlaaMap
import Derived.Test.YtjlehpgfhlkjlaaP
set_option linter.all false
namespace Go.Proofs.Ytjlehpgfhlkjlaa
open Go.RowKit Jq

theorem eql_func (T : TypeId) (t1 t2 : Array TypeId) (v : Bool) (hT : Try.prog.underlying T = some (.func t1 t2 v)) (fn : Fn) (f c : Array Value) (w : World) : (binOp .eql T (.func fn f c) .nilFunc).run Try.prog w = .ok (.bool false) w := by
  have h : ∀ d, (Op.equalIn (d + 1) T (.func fn f c) .nilFunc).run Try.prog w = .ok false w := fun d => by simp [Op.equalIn, run_underlying hT]
  simp [binOp, Op.equal, Op.maxDepth, h 9999]
theorem eql_nilFunc (T : TypeId) (t1 t2 : Array TypeId) (v : Bool) (hT : Try.prog.underlying T = some (.func t1 t2 v)) (w : World) : (binOp .eql T .nilFunc .nilFunc).run Try.prog w = .ok (.bool true) w := by
  have h : ∀ d, (Op.equalIn (d + 1) T .nilFunc .nilFunc).run Try.prog w = .ok true w := fun d => by simp [Op.equalIn, run_underlying hT]
  simp [binOp, Op.equal, Op.maxDepth, h 9999]

theorem ret2_of {k : IntKind} {n m : Int} {b c : Bool} {w w' : World} (hn : n = m) (hb : b = c) (hw : Below w.heap.size w w') : Ending.returned (.tuple #[.int k n, .bool b]) = .returned (.tuple #[.int k m, .bool c]) ∧ Below w.heap.size w w' := by
  subst hn; subst hb; exact ⟨rfl, hw⟩

set_option maxRecDepth 100000 in
set_option maxHeartbeats 4000000 in
theorem wordDo (op a b : Int) (w : World) :
    Calls Try.prog 28 #[.int .i64 op, .int .i32 a, .int .i32 b] w fun e w' => e = .returned (.tuple #[.int .i32 ((wdo op a b).getD 0), .bool (wdo op a b).isSome]) ∧ Below w.heap.size w w' := by
  have hlc := lk_cons
  have hln := lk_nil
  have hmm := run_newMap (P := Try.prog) 111 .i64
  have hins := run_newKey (P := Try.prog) 111 3 _ .i64 Try.underlying111 Try.underlying3
  have hask := run_askLast (P := Try.prog) 111 3 _ .i64 Try.underlying111 Try.underlying3 .nilFunc (fun w => by kernel_rfl)
  have heq := eql_func 109 _ _ _ Try.underlying109
  have heqn := eql_nilFunc 109 _ _ _ Try.underlying109
  have hop : op = 2 ∨ op = 3 ∨ op = 4 ∨ op = 5 ∨ op = 6 ∨ op = 7 ∨ op = 8 ∨ op = 9 ∨ op = 10 ∨ op = 11 ∨ op = 12 ∨ op = 13 ∨ op = 14 ∧ b = 0 ∨ op = 14 ∧ b ≠ 0 ∨ (op < 2 ∨ 14 < op) := by omega
  rcases hop with rfl | rfl | rfl | rfl | rfl | rfl | rfl | rfl | rfl | rfl | rfl | rfl | ⟨rfl, rfl⟩ | ⟨rfl, hb⟩ | hop
  case inr.inr.inr.inr.inr.inr.inr.inr.inr.inr.inr.inr.inr.inl =>
    have hb1 : (b == 0) = false := by simpa using hb
    have hb2 : ¬ (b = 0) := hb
    clear hb
    go_enter Try.func28, Try.ntmps28
    go_wp2_with (go_in)
    go_ret2
    exact ret2_of (by simp [wdo, hb2]) (by simp [wdo, hb2]) (by first | exact ((((Below.refl _ _).alloc (Nat.le_refl _) _).alloc (by simp) _).alloc (by simp; omega) _).alloc (by simp; omega) _)
  case inr.inr.inr.inr.inr.inr.inr.inr.inr.inr.inr.inr.inr.inr =>
    have hn := wdo_none a b hop
    have e2 : ¬ (op = 2) := by omega
    have e3 : ¬ (op = 3) := by omega
    have e4 : ¬ (op = 4) := by omega
    have e5 : ¬ (op = 5) := by omega
    have e6 : ¬ (op = 6) := by omega
    have e7 : ¬ (op = 7) := by omega
    have e8 : ¬ (op = 8) := by omega
    have e9 : ¬ (op = 9) := by omega
    have e10 : ¬ (op = 10) := by omega
    have e11 : ¬ (op = 11) := by omega
    have e12 : ¬ (op = 12) := by omega
    have e13 : ¬ (op = 13) := by omega
    have e14 : ¬ (op = 14) := by omega
    rw [hn]
    clear hop hn
    go_enter Try.func28, Try.ntmps28
    go_wp2
    go_ret2
    exact ret2_of rfl rfl ((((Below.refl _ _).alloc (Nat.le_refl _) _).alloc (by simp) _).alloc (by simp; omega) _ |>.alloc (by simp; omega) _)
  all_goals go_enter Try.func28, Try.ntmps28
  all_goals go_wp2_with (go_in)
  all_goals go_ret2
  all_goals exact ret2_of (by first | (simp [wdo, *]; done) | (have h := ‹(a == b) = true›; simp at h; simp [wdo, h]; done) | (have h := ‹(a == b) = false›; simp at h; simp [wdo, h]; done)) (by simp [wdo]) ((((Below.refl _ _).alloc (Nat.le_refl _) _).alloc (by simp) _).alloc (by simp; omega) _ |>.alloc (by simp; omega) _)
end Go.Proofs.Ytjlehpgfhlkjlaa
