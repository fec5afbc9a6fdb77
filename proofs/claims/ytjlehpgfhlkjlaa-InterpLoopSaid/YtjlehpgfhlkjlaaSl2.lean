/-
  Go's slices.ContainsFunc, Index, Contains, EqualFunc, Clone at the program's types.
-/
import Derived.Test.YtjlehpgfhlkjlaaSl1
set_option linter.all false
namespace Go.Proofs.Ytjlehpgfhlkjlaa
open Go.RowKit Jq

set_option maxRecDepth 100000 in
set_option maxHeartbeats 400000 in
theorem containsFuncInt (s : Sl Int) (f : FuncId) (c : Array Value) (p : Int → Bool) (w : World) (hs : kI.sl.rd w s) (hf : Asks Try.prog f c (.int .i64 ·) p s.l w) :
    Calls Try.prog 107 #[s.val, .func (.func f) #[] c] w fun e w' => e = .returned (.bool (s.l.any p)) ∧ Below w.heap.size w w' := by
  have hc := Lib.hid (indexFuncInt s f c p w hs hf)
  clear hs hf
  go_enter Try.func107, Try.ntmps107
  go_wp2_with (go_at_call 125; (refine hc.out.mono ?_); rintro e w1 ⟨rfl, hb1⟩; have hb1' := Lib.hid hb1; clear hb1)
  go_ret
  exact ⟨congrArg (fun b => Ending.returned (.bool b)) (idx_ge p s.l), hb1'.out⟩

set_option maxRecDepth 100000 in
set_option maxHeartbeats 400000 in
theorem containsFuncIn (s : Sl In) (f : FuncId) (c : Array Value) (p : In → Bool) (w : World) (hs : kIn.sl.rd w s) (hf : Asks Try.prog f c (fun x => .agg #[.int .i64 x.from_, .int .i64 x.val]) p s.l w) :
    Calls Try.prog 101 #[s.val, .func (.func f) #[] c] w fun e w' => e = .returned (.bool (s.l.any p)) ∧ Below w.heap.size w w' := by
  have hc := Lib.hid (indexFuncIn s f c p w hs hf)
  clear hs hf
  go_enter Try.func101, Try.ntmps101
  go_wp2_with (go_at_call 82; (refine hc.out.mono ?_); rintro e w1 ⟨rfl, hb1⟩; have hb1' := Lib.hid hb1; clear hb1)
  go_ret
  exact ⟨congrArg (fun b => Ending.returned (.bool b)) (idx_ge p s.l), hb1'.out⟩

set_option maxRecDepth 100000 in
set_option maxHeartbeats 400000 in
theorem containsFuncPhi (s : Sl (Phi Sl)) (f : FuncId) (c : Array Value) (p : (Phi Sl) → Bool) (w : World) (hs : kPhi.sl.rd w s) (hf : Asks Try.prog f c Phi.v p s.l w) :
    Calls Try.prog 103 #[s.val, .func (.func f) #[] c] w fun e w' => e = .returned (.bool (s.l.any p)) ∧ Below w.heap.size w w' := by
  have hc := Lib.hid (indexFuncPhi s f c p w hs hf)
  clear hs hf
  go_enter Try.func103, Try.ntmps103
  go_wp2_with (go_at_call 123; (refine hc.out.mono ?_); rintro e w1 ⟨rfl, hb1⟩; have hb1' := Lib.hid hb1; clear hb1)
  go_ret
  exact ⟨congrArg (fun b => Ending.returned (.bool b)) (idx_ge p s.l), hb1'.out⟩
end Go.Proofs.Ytjlehpgfhlkjlaa
