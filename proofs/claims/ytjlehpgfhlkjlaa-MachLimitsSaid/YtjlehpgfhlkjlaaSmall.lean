/-
  mach.Needs, regs, imm: small ones.
-/
import Derived.Test.YtjlehpgfhlkjlaaTakes
import Derived.Test.YtjlehpgfhlkjlaaSl2
import Derived.Test.YtjlehpgfhlkjlaaWord2
set_option linter.all false
namespace Go.Proofs.Ytjlehpgfhlkjlaa
open Go.RowKit Jq
theorem ret_bool {a b : Bool} {w w' : World} (h : a = b) (hb : Below w.heap.size w w') : Ending.returned (.bool a) = .returned (.bool b) ∧ Below w.heap.size w w' := by subst h; exact ⟨rfl, hb⟩

set_option maxRecDepth 100000 in
set_option maxHeartbeats 400000 in
theorem regs1 (r : Int) (w : World) : Calls Try.prog 122 #[.int .i64 r] w fun e w' => e = .returned (.bool (badReg r)) ∧ Below w.heap.size w w' := by
  have hop : r < 0 ∨ 0 ≤ r := by omega
  rcases hop with hop | hop
  all_goals go_enter Try.func122, Try.ntmps122
  all_goals go_wp2
  all_goals go_ret
  · exact ret_bool (by unfold badReg; rw [eq_comm, decide_eq_true_eq]; omega) (Below.refl _ _)
  · exact ret_bool (by unfold badReg; simp only [show ¬ r < 0 from by omega, false_or]; rfl) (Below.refl _ _)
theorem regs1_go : ∀ (xs : Array Value) (W : World), (callFunc 122 xs).run Try.prog W = .ok (.enter 122 xs) W := fun xs W => run_callFunc_go Try.func122 (by kernel_rfl) rfl xs W

set_option maxRecDepth 100000 in
set_option maxHeartbeats 400000 in
theorem machRegs (s : Sl Int) (w : World) (hs : kI.sl.rd w s) : Calls Try.prog 100 #[s.val] w fun e w' => e = .returned (.bool (!s.l.any badReg)) ∧ Below w.heap.size w w' := by
  have hc := Lib.hid (containsFuncInt s 122 #[] badReg w hs ⟨regs1_go, fun x _ W _ => regs1 x W⟩)
  clear hs
  go_enter Try.func100, Try.ntmps100
  go_wp2_with (go_at_call 107; (refine hc.out.mono ?_); rintro e w1 ⟨rfl, hb1⟩; have hb1' := Lib.hid hb1; clear hb1)
  go_ret
  exact ret_bool rfl hb1'.out

set_option maxRecDepth 100000 in
set_option maxHeartbeats 1000000 in
theorem machNeeds (x : Jq.End Sl) (w : World) : Calls Try.prog 106 #[x.v] w (RetSl kI 3 w (needs x.p)) := by
  have hop : x.op = 2 ∨ x.op = 6 ∨ (x.op = 7 ∧ 0 ≤ x.a) ∨ (x.op = 7 ∧ x.a < 0) ∨ (3 ≤ x.op ∧ x.op ≤ 5) ∨ (x.op < 2 ∨ 7 < x.op) := by omega
  have hn : needs x.p = if x.op = 2 ∨ x.op = 6 ∨ x.op = 7 ∧ 0 ≤ x.a then [x.a] else if 3 ≤ x.op ∧ x.op ≤ 5 then [x.a, x.b] else [] := rfl
  rw [hn]
  clear hn
  rcases hop with hop | hop | ⟨hop, ha⟩ | ⟨hop, ha⟩ | ⟨hop, ha⟩ | hop
  case inl =>
    rw [if_pos (by omega)]
    have e1 : (x.op == 2) = true := by simpa using hop
    clear hop
    go_enter Try.func106, Try.ntmps106
    go_wp2
    go_ret
    exact lit_ret _ (w.alloc _) [x.a] _ (by simp) (bal (Below.refl _ _) _) (by simp)
  case inr.inl =>
    rw [if_pos (by omega)]
    have e1 : (x.op == 2) = false := by simp; omega
    have e2 : (x.op == 6) = true := by simpa using hop
    clear hop
    go_enter Try.func106, Try.ntmps106
    go_wp2
    go_ret
    exact lit_ret _ (w.alloc _) [x.a] _ (by simp) (bal (Below.refl _ _) _) (by simp)
  case inr.inr.inl =>
    rw [if_pos (by omega)]
    have e1 : (x.op == 2) = false := by simp; omega
    have e2 : (x.op == 6) = false := by simp; omega
    have e3 : (x.op == 7) = true := by simpa using hop
    clear hop
    go_enter Try.func106, Try.ntmps106
    go_wp2
    go_ret
    exact lit_ret _ (w.alloc _) [x.a] _ (by simp) (bal (Below.refl _ _) _) (by simp)
  case inr.inr.inr.inl =>
    rw [if_neg (by omega), if_neg (by omega)]
    have e1 : (x.op == 2) = false := by simp; omega
    have e2 : (x.op == 6) = false := by simp; omega
    have e3 : (x.op == 7) = true := by simpa using hop
    have e4 : 5 < x.op := by omega
    have e5 : ¬ 0 ≤ x.a := by omega
    clear hop ha
    go_enter Try.func106, Try.ntmps106
    go_wp2
    go_ret
    exact nil_ret _ _ (bal (Below.refl _ _) _)
  case inr.inr.inr.inr.inl =>
    rw [if_neg (by omega), if_pos (by omega)]
    have e1 : (x.op == 2) = false := by simp; omega
    have e2 : (x.op == 6) = false := by simp; omega
    have e3 : (x.op == 7) = false := by simp; omega
    go_enter Try.func106, Try.ntmps106
    go_wp2
    go_ret
    exact lit_ret _ (w.alloc _) [x.a, x.b] _ (by simp) (bal (Below.refl _ _) _) (by simp)
  case inr.inr.inr.inr.inr =>
    rw [if_neg (by omega), if_neg (by omega)]
    have e1 : (x.op == 2) = false := by simp; omega
    have e2 : (x.op == 6) = false := by simp; omega
    have e3 : (x.op == 7) = false := by simp; omega
    rcases hop with hop | hop
    all_goals go_enter Try.func106, Try.ntmps106
    all_goals go_wp2
    all_goals go_ret
    all_goals exact nil_ret _ _ (bal (Below.refl _ _) _)
end Go.Proofs.Ytjlehpgfhlkjlaa
