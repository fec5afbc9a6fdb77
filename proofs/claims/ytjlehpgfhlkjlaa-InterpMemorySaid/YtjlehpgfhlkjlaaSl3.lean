/-
  Go's slices.Index at []int and []bool, Contains, EqualFunc over []api.In and []int, mach.graph's function value.
-/
import Derived.Test.YtjlehpgfhlkjlaaSl1
set_option linter.all false
namespace Go.Proofs.Ytjlehpgfhlkjlaa
open Go.RowKit Jq

set_option maxRecDepth 100000 in
set_option maxHeartbeats 400000 in
theorem indexInt (s : Sl Int) (v : Int) (w : World) (hs : kI.sl.rd w s) :
    Calls Try.prog 126 #[s.val, .int .i64 v] w fun e w' => e = .returned (.int .i64 (idx (fun x => v == x) s.l)) ∧ w = w' := by
  have hb := Kd.bound hs
  have hs' := Lib.hid hs
  clear hs
  go_enter Try.func126, Try.ntmps126
  go_wp2
  go_loop [8] (fun i => ∃ k : Nat, k ≤ s.l.length ∧ i = .int .i64 k ∧ idxFrom (fun x => v == x) k s.l = idx (fun x => v == x) s.l) (fun i => s.l.length - (intOf i).toNat)
  case atStart => exact ⟨0, Nat.zero_le _, rfl, rfl⟩
  case round =>
    obtain ⟨k, hk, rfl, hix⟩ := hrel
    have hix' := Lib.hid hix
    clear hix
    by_cases hlt : k < s.l.length
    · obtain ⟨b, o, hat, hb, hc⟩ := getI 38 3 Try.underlying38 (by kernel_rfl) hs'.out k hlt rfl
      cases hp : (v == s.l[k]) with
      | true =>
        have hp' := Lib.hid hp
        go_wp2
        go_ret
        exact ⟨by rw [← hix'.out, idxFrom_yes (fun x => v == x) k s.l hlt hp'.out]; rfl, rfl⟩
      | false =>
        have hp' := Lib.hid hp
        go_wp2
        go_round
        case rel => exact ⟨k + 1, by omega, by go_num, by rw [← idxFrom_no (fun x => v == x) k s.l hlt hp'.out]; exact hix'.out⟩
        case measure => simp [intOf]; omega
    · have e' := Lib.hid (idxFrom_end (fun x => v == x) k s.l (by omega))
      go_wp2
      go_ret
      exact ⟨by rw [← hix'.out, e'.out]; rfl, rfl⟩

set_option maxRecDepth 100000 in
set_option maxHeartbeats 400000 in
theorem indexBool (s : Sl Bool) (v : Bool) (w : World) (hs : kB.sl.rd w s) :
    Calls Try.prog 110 #[s.val, .bool v] w fun e w' => e = .returned (.int .i64 (idx (fun x => v == x) s.l)) ∧ w = w' := by
  have hb := Kd.bound hs
  have hs' := Lib.hid hs
  clear hs
  go_enter Try.func110, Try.ntmps110
  go_wp2
  go_loop [8] (fun i => ∃ k : Nat, k ≤ s.l.length ∧ i = .int .i64 k ∧ idxFrom (fun x => v == x) k s.l = idx (fun x => v == x) s.l) (fun i => s.l.length - (intOf i).toNat)
  case atStart => exact ⟨0, Nat.zero_le _, rfl, rfl⟩
  case round =>
    obtain ⟨k, hk, rfl, hix⟩ := hrel
    have hix' := Lib.hid hix
    clear hix
    by_cases hlt : k < s.l.length
    · obtain ⟨b, o, hat, hb, hc⟩ := getB 128 4 Try.underlying128 (by kernel_rfl) hs'.out k hlt rfl
      cases hp : (v == s.l[k]) with
      | true =>
        have hp' := Lib.hid hp
        go_wp2
        go_ret
        exact ⟨by rw [← hix'.out, idxFrom_yes (fun x => v == x) k s.l hlt hp'.out]; rfl, rfl⟩
      | false =>
        have hp' := Lib.hid hp
        go_wp2
        go_round
        case rel => exact ⟨k + 1, by omega, by go_num, by rw [← idxFrom_no (fun x => v == x) k s.l hlt hp'.out]; exact hix'.out⟩
        case measure => simp [intOf]; omega
    · have e' := Lib.hid (idxFrom_end (fun x => v == x) k s.l (by omega))
      go_wp2
      go_ret
      exact ⟨by rw [← hix'.out, e'.out]; rfl, rfl⟩

theorem any_contains (v : Int) (l : List Int) : (l.any fun x => v == x) = l.contains v := by
  induction l with
  | nil => rfl
  | cons x l ih => simp only [List.any_cons, List.contains_cons, ih]
set_option maxRecDepth 100000 in
set_option maxHeartbeats 400000 in
theorem containsInt (s : Sl Int) (v : Int) (w : World) (hs : kI.sl.rd w s) :
    Calls Try.prog 109 #[s.val, .int .i64 v] w fun e w' => e = .returned (.bool (s.l.contains v)) ∧ w = w' := by
  have hc := Lib.hid (indexInt s v w hs)
  clear hs
  go_enter Try.func109, Try.ntmps109
  go_wp2_with fail
  refine hc.out.mono ?_
  rintro e w1 ⟨rfl, rfl⟩
  go_wp2
  go_ret
  exact ⟨congrArg (fun b => Ending.returned (.bool b)) ((idx_ge _ s.l).trans (any_contains v s.l)), rfl⟩
end Go.Proofs.Ytjlehpgfhlkjlaa
