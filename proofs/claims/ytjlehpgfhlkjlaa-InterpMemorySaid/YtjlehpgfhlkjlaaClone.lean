/-
  Go's slices.Clone at []int and []int32.
-/
import Derived.Test.YtjlehpgfhlkjlaaRows
import Derived.Test.YtjlehpgfhlkjlaaOwn
import Derived.Test.YtjlehpgfhlkjlaaP
import Derived.Lib.SliceRun
set_option linter.all false
namespace Go.Proofs.Ytjlehpgfhlkjlaa
open Go.RowKit Jq
theorem infoI : (Try.prog.info? 3).map (fun i => (i.zero, i.size, i.bytes)) = some (some (.int .i64 0), 1, 8) := by kernel_rfl
theorem infoW : (Try.prog.info? 21).map (fun i => (i.zero, i.size, i.bytes)) = some (some (.int .i32 0), 1, 4) := by kernel_rfl

set_option maxRecDepth 100000 in
set_option maxHeartbeats 400000 in
theorem cloneInt (s : Sl Int) (w : World) (hs : kI.sl.rd w s) (hn : s.l.length * 8 ≤ 140737488355328) :
    Calls Try.prog 98 #[s.val] w (RetSl kI 3 w s.l) := by
  have heq := Lib.run_eql_slice_nil (P := Try.prog)
  have hs' := Lib.hid hs
  rcases s with ⟨A, cap, l⟩
  cases A with
  | none =>
    have hl : l = [] := by
      cases l with
      | nil => rfl
      | cons x l => obtain ⟨b, o, h, _⟩ := hs.2.2.1 (by simp); cases h
    subst hl
    clear hs hs'
    go_enter Try.func98, Try.ntmps98
    go_wp2
    go_ret
    exact ⟨nilSl, rfl, rfl, Own.nil _ _ _ _, Below.refl _ _⟩
  | some a =>
    clear hs
    go_enter Try.func98, Try.ntmps98
    go_wp2_with (at_builtin; refine wpList_app kI (by decide) kI_one w.heap.size rfl 38 3 _ _ rfl (.int .i64 0) 8 Try.underlying38 infoI rfl (by decide) _ ⟨some ⟨w.heap.size, 0, none⟩, 0, []⟩ _ rfl rfl (own_lit (.int .i64) _ _ w [] (Nat.le_refl _) (by simp)) (kI.sl.below hs'.out (bal (Below.refl _ _) _)) (by simp) kI_apart (by simpa using hn) ?_; intro s' w1 hown hl hg hat; have hown' := Lib.hid hown; have hl' := Lib.hid hl; have hg' := Lib.hid hg; clear hown hl hg hat)
    go_ret
    exact ⟨s', rfl, by simpa using hl'.out, hown'.out, (bal (Below.refl _ _) _).grown hg'.out (by simp) (by intro k hk; simp [Value.ownBlock] at hk; omega)⟩

set_option maxRecDepth 100000 in
set_option maxHeartbeats 400000 in
theorem cloneW (s : Sl Int) (w : World) (hs : kW.sl.rd w s) (hn : s.l.length * 4 ≤ 140737488355328) :
    Calls Try.prog 81 #[s.val] w (RetSl kW 21 w s.l) := by
  have heq := Lib.run_eql_slice_nil (P := Try.prog)
  have hs' := Lib.hid hs
  rcases s with ⟨A, cap, l⟩
  cases A with
  | none =>
    have hl : l = [] := by
      cases l with
      | nil => rfl
      | cons x l => obtain ⟨b, o, h, _⟩ := hs.2.2.1 (by simp); cases h
    subst hl
    clear hs hs'
    go_enter Try.func81, Try.ntmps81
    go_wp2
    go_ret
    exact ⟨nilSl, rfl, rfl, Own.nil _ _ _ _, Below.refl _ _⟩
  | some a =>
    clear hs
    go_enter Try.func81, Try.ntmps81
    go_wp2_with (at_builtin; refine wpList_app kW (by decide) kW_one w.heap.size rfl 25 21 _ _ rfl (.int .i32 0) 4 Try.underlying25 infoW rfl (by decide) _ ⟨some ⟨w.heap.size, 0, none⟩, 0, []⟩ _ rfl rfl (own_lit (.int .i32) _ _ w [] (Nat.le_refl _) (by simp)) (kW.sl.below hs'.out (bal (Below.refl _ _) _)) (by simp) kW_apart (by simpa using hn) ?_; intro s' w1 hown hl hg hat; have hown' := Lib.hid hown; have hl' := Lib.hid hl; have hg' := Lib.hid hg; clear hown hl hg hat)
    go_ret
    exact ⟨s', rfl, by simpa using hl'.out, hown'.out, (bal (Below.refl _ _) _).grown hg'.out (by simp) (by intro k hk; simp [Value.ownBlock] at hk; omega)⟩
end Go.Proofs.Ytjlehpgfhlkjlaa
