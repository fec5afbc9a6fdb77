/-
  Go's slices.IndexFunc, ContainsFunc, Index, Contains at the program's types.
  Go's slices.ContainsFunc, Index, Contains, EqualFunc, Clone at the program's types.
-/
import Derived.Test.YtjlehpgfhlkjlaaRows
import Derived.Test.YtjlehpgfhlkjlaaCore
import Derived.Test.YtjlehpgfhlkjlaaP
set_option linter.all false
namespace Go.Proofs.Ytjlehpgfhlkjlaa
open Go.RowKit Jq


set_option maxRecDepth 100000 in
set_option maxHeartbeats 400000 in
theorem indexFuncInt (s : Sl Int) (f : FuncId) (c : Array Value) (p : Int → Bool) (w : World) (hs : kI.sl.rd w s) (hf : Asks Try.prog f c (.int .i64 ·) p s.l w) :
    Calls Try.prog 125 #[s.val, .func (.func f) #[] c] w fun e w' => e = .returned (.int .i64 (idx p s.l)) ∧ Below w.heap.size w w' := by
  have hb := Kd.bound hs
  have hs' := Lib.hid hs
  have hf' := Lib.hid hf
  have hgo := hf.go
  clear hs hf
  go_enter Try.func125, Try.ntmps125
  go_wp2
  go_loopw [8] (fun i wr => ∃ k : Nat, k ≤ s.l.length ∧ i = .int .i64 k ∧ idxFrom p k s.l = idx p s.l ∧ Below w.heap.size w wr) (fun i _ => s.l.length - (intOf i).toNat)
  case atStart => exact ⟨0, Nat.zero_le _, rfl, rfl, Below.refl _ _⟩
  case round =>
    obtain ⟨k, hk, rfl, hix, hbw⟩ := hrel
    have hix' := Lib.hid hix
    have hbw' := Lib.hid hbw
    clear hix hbw
    by_cases hlt : k < s.l.length
    · obtain ⟨b, o, hat, hb, hc⟩ := getI 38 3 Try.underlying38 (by kernel_rfl) (kI.sl.below hs'.out hbw'.out) k hlt rfl
      have hcall := Lib.hid (hf'.out.run _ (List.getElem_mem hlt) _ hbw'.out)
      have hp : p s.l[k] = true ∨ p s.l[k] = false := by cases p s.l[k] <;> simp
      rcases hp with hp | hp
      · have hp' := Lib.hid hp
        clear hp
        go_wp2_with ((refine hcall.out.mono ?_); rintro e w1 ⟨rfl, hb1⟩; have hb1' := Lib.hid hb1; clear hb1; rw [hp'.out])
        go_ret
        exact ⟨by rw [← hix'.out, idxFrom_yes p k s.l hlt hp'.out]; rfl, hbw'.out.trans (hb1'.out.mono hbw'.out.size)⟩
      · have hp' := Lib.hid hp
        clear hp
        go_wp2_with ((refine hcall.out.mono ?_); rintro e w1 ⟨rfl, hb1⟩; have hb1' := Lib.hid hb1; clear hb1; rw [hp'.out])
        go_roundw
        case rel => exact ⟨k + 1, by omega, by go_num, by rw [← idxFrom_no p k s.l hlt hp'.out]; exact hix'.out, hbw'.out.trans (hb1'.out.mono hbw'.out.size)⟩
        case measure => simp [intOf]; omega
    · have e' := Lib.hid (idxFrom_end p k s.l (by omega))
      go_wp2
      go_ret
      exact ⟨by rw [← hix'.out, e'.out]; rfl, hbw'.out⟩

set_option maxRecDepth 100000 in
set_option maxHeartbeats 400000 in
theorem indexFuncIn (s : Sl In) (f : FuncId) (c : Array Value) (p : In → Bool) (w : World) (hs : kIn.sl.rd w s) (hf : Asks Try.prog f c (fun x => .agg #[.int .i64 x.from_, .int .i64 x.val]) p s.l w) :
    Calls Try.prog 82 #[s.val, .func (.func f) #[] c] w fun e w' => e = .returned (.int .i64 (idx p s.l)) ∧ Below w.heap.size w w' := by
  have hb := Kd.bound hs
  have hs' := Lib.hid hs
  have hf' := Lib.hid hf
  have hgo := hf.go
  clear hs hf
  go_enter Try.func82, Try.ntmps82
  go_wp2
  go_loopw [8] (fun i wr => ∃ k : Nat, k ≤ s.l.length ∧ i = .int .i64 k ∧ idxFrom p k s.l = idx p s.l ∧ Below w.heap.size w wr) (fun i _ => s.l.length - (intOf i).toNat)
  case atStart => exact ⟨0, Nat.zero_le _, rfl, rfl, Below.refl _ _⟩
  case round =>
    obtain ⟨k, hk, rfl, hix, hbw⟩ := hrel
    have hix' := Lib.hid hix
    have hbw' := Lib.hid hbw
    clear hix hbw
    by_cases hlt : k < s.l.length
    · obtain ⟨b, o, hat, hb, hc1, hc2⟩ := getIn 91 90 Try.underlying91 (by kernel_rfl) (kIn.sl.below hs'.out hbw'.out) k hlt rfl
      have hcall := Lib.hid (hf'.out.run _ (List.getElem_mem hlt) _ hbw'.out)
      have hp : p s.l[k] = true ∨ p s.l[k] = false := by cases p s.l[k] <;> simp
      rcases hp with hp | hp
      · have hp' := Lib.hid hp
        clear hp
        go_wp2_with ((refine hcall.out.mono ?_); rintro e w1 ⟨rfl, hb1⟩; have hb1' := Lib.hid hb1; clear hb1; rw [hp'.out])
        go_ret
        exact ⟨by rw [← hix'.out, idxFrom_yes p k s.l hlt hp'.out]; rfl, hbw'.out.trans (hb1'.out.mono hbw'.out.size)⟩
      · have hp' := Lib.hid hp
        clear hp
        go_wp2_with ((refine hcall.out.mono ?_); rintro e w1 ⟨rfl, hb1⟩; have hb1' := Lib.hid hb1; clear hb1; rw [hp'.out])
        go_roundw
        case rel => exact ⟨k + 1, by omega, by go_num, by rw [← idxFrom_no p k s.l hlt hp'.out]; exact hix'.out, hbw'.out.trans (hb1'.out.mono hbw'.out.size)⟩
        case measure => simp [intOf]; omega
    · have e' := Lib.hid (idxFrom_end p k s.l (by omega))
      go_wp2
      go_ret
      exact ⟨by rw [← hix'.out, e'.out]; rfl, hbw'.out⟩

set_option maxRecDepth 100000 in
set_option maxHeartbeats 400000 in
theorem indexFuncPhi (s : Sl (Phi Sl)) (f : FuncId) (c : Array Value) (p : (Phi Sl) → Bool) (w : World) (hs : kPhi.sl.rd w s) (hf : Asks Try.prog f c Phi.v p s.l w) :
    Calls Try.prog 123 #[s.val, .func (.func f) #[] c] w fun e w' => e = .returned (.int .i64 (idx p s.l)) ∧ Below w.heap.size w w' := by
  have hb := Kd.bound hs
  have hs' := Lib.hid hs
  have hf' := Lib.hid hf
  have hgo := hf.go
  clear hs hf
  go_enter Try.func123, Try.ntmps123
  go_wp2
  go_loopw [8] (fun i wr => ∃ k : Nat, k ≤ s.l.length ∧ i = .int .i64 k ∧ idxFrom p k s.l = idx p s.l ∧ Below w.heap.size w wr) (fun i _ => s.l.length - (intOf i).toNat)
  case atStart => exact ⟨0, Nat.zero_le _, rfl, rfl, Below.refl _ _⟩
  case round =>
    obtain ⟨k, hk, rfl, hix, hbw⟩ := hrel
    have hix' := Lib.hid hix
    have hbw' := Lib.hid hbw
    clear hix hbw
    by_cases hlt : k < s.l.length
    · obtain ⟨b, o, hat, hb, hc1, hc2, hr⟩ := getPhi 62 93 Try.underlying62 (by kernel_rfl) (kPhi.sl.below hs'.out hbw'.out) k hlt rfl
      have hcall := Lib.hid (hf'.out.run _ (List.getElem_mem hlt) _ hbw'.out)
      have hp : p s.l[k] = true ∨ p s.l[k] = false := by cases p s.l[k] <;> simp
      rcases hp with hp | hp
      · have hp' := Lib.hid hp
        clear hp
        go_wp2_with ((refine hcall.out.mono ?_); rintro e w1 ⟨rfl, hb1⟩; have hb1' := Lib.hid hb1; clear hb1; rw [hp'.out])
        go_ret
        exact ⟨by rw [← hix'.out, idxFrom_yes p k s.l hlt hp'.out]; rfl, hbw'.out.trans (hb1'.out.mono hbw'.out.size)⟩
      · have hp' := Lib.hid hp
        clear hp
        go_wp2_with ((refine hcall.out.mono ?_); rintro e w1 ⟨rfl, hb1⟩; have hb1' := Lib.hid hb1; clear hb1; rw [hp'.out])
        go_roundw
        case rel => exact ⟨k + 1, by omega, by go_num, by rw [← idxFrom_no p k s.l hlt hp'.out]; exact hix'.out, hbw'.out.trans (hb1'.out.mono hbw'.out.size)⟩
        case measure => simp [intOf]; omega
    · have e' := Lib.hid (idxFrom_end p k s.l (by omega))
      go_wp2
      go_ret
      exact ⟨by rw [← hix'.out, e'.out]; rfl, hbw'.out⟩
end Go.Proofs.Ytjlehpgfhlkjlaa
set_option linter.all false
namespace Go.Proofs.Ytjlehpgfhlkjlaa
open Go.RowKit Jq

set_option maxRecDepth 100000 in
set_option maxHeartbeats 400000 in
theorem containsFuncInt (s : Sl Int) (f : FuncId) (c : Array Value) (p : Int → Bool) (w : World) (hs : kI.sl.rd w s) (hf : Asks Try.prog f c (.int .i64 ·) p s.l w) :
    Calls Try.prog 107 #[s.val, .func (.func f) #[] c] w fun e w' => e = .returned (.bool (s.l.any p)) ∧ Below w.heap.size w w' := by
  have hc := Lib.hid (indexFuncInt s f c p w hs hf)
  clear hs hf
  go_enter Try.func107, Try.ntmps107
  go_wp2_with (go_at_call 125; (refine hc.out.mono ?_); rintro e w1 ⟨rfl, hb1⟩; have hb1' := Lib.hid hb1; clear hb1)
  go_ret
  exact ⟨congrArg (fun b => Ending.returned (.bool b)) (idx_ge p s.l), hb1'.out⟩

set_option maxRecDepth 100000 in
set_option maxHeartbeats 400000 in
theorem containsFuncIn (s : Sl In) (f : FuncId) (c : Array Value) (p : In → Bool) (w : World) (hs : kIn.sl.rd w s) (hf : Asks Try.prog f c (fun x => .agg #[.int .i64 x.from_, .int .i64 x.val]) p s.l w) :
    Calls Try.prog 101 #[s.val, .func (.func f) #[] c] w fun e w' => e = .returned (.bool (s.l.any p)) ∧ Below w.heap.size w w' := by
  have hc := Lib.hid (indexFuncIn s f c p w hs hf)
  clear hs hf
  go_enter Try.func101, Try.ntmps101
  go_wp2_with (go_at_call 82; (refine hc.out.mono ?_); rintro e w1 ⟨rfl, hb1⟩; have hb1' := Lib.hid hb1; clear hb1)
  go_ret
  exact ⟨congrArg (fun b => Ending.returned (.bool b)) (idx_ge p s.l), hb1'.out⟩

set_option maxRecDepth 100000 in
set_option maxHeartbeats 400000 in
theorem containsFuncPhi (s : Sl (Phi Sl)) (f : FuncId) (c : Array Value) (p : (Phi Sl) → Bool) (w : World) (hs : kPhi.sl.rd w s) (hf : Asks Try.prog f c Phi.v p s.l w) :
    Calls Try.prog 103 #[s.val, .func (.func f) #[] c] w fun e w' => e = .returned (.bool (s.l.any p)) ∧ Below w.heap.size w w' := by
  have hc := Lib.hid (indexFuncPhi s f c p w hs hf)
  clear hs hf
  go_enter Try.func103, Try.ntmps103
  go_wp2_with (go_at_call 123; (refine hc.out.mono ?_); rintro e w1 ⟨rfl, hb1⟩; have hb1' := Lib.hid hb1; clear hb1)
  go_ret
  exact ⟨congrArg (fun b => Ending.returned (.bool b)) (idx_ge p s.l), hb1'.out⟩
end Go.Proofs.Ytjlehpgfhlkjlaa
