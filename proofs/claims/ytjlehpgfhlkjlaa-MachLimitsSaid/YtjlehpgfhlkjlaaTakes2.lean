/-
  mach.Takes, mach.Makes, mach.Needs.
-/
import Derived.Test.YtjlehpgfhlkjlaaTakes
set_option linter.all false
namespace Go.Proofs.Ytjlehpgfhlkjlaa
open Go.RowKit Jq

theorem bcell {W w1 : World} (hb : Below W.heap.size W w1) : (∀ b o, b < W.heap.size → w1.cell? ⟨b, o, none⟩ = W.cell? ⟨b, o, none⟩) :=
  fun b o h => hb.cell (p := ⟨b, o, none⟩) h
theorem goNone : ∀ (xs : Array Value) (W : World), (callFunc 92 xs).run Try.prog W = .ok (.enter 92 xs) W := fun xs W => run_callFunc_go Try.func92 (by kernel_rfl) rfl xs W
theorem goD : ∀ (xs : Array Value) (W : World), (callFunc 93 xs).run Try.prog W = .ok (.enter 93 xs) W := fun xs W => run_callFunc_go Try.func93 (by kernel_rfl) rfl xs W
theorem goA : ∀ (xs : Array Value) (W : World), (callFunc 94 xs).run Try.prog W = .ok (.enter 94 xs) W := fun xs W => run_callFunc_go Try.func94 (by kernel_rfl) rfl xs W
theorem goAB : ∀ (xs : Array Value) (W : World), (callFunc 95 xs).run Try.prog W = .ok (.enter 95 xs) W := fun xs W => run_callFunc_go Try.func95 (by kernel_rfl) rfl xs W
theorem goABC : ∀ (xs : Array Value) (W : World), (callFunc 96 xs).run Try.prog W = .ok (.enter 96 xs) W := fun xs W => run_callFunc_go Try.func96 (by kernel_rfl) rfl xs W
theorem goArgs : ∀ (xs : Array Value) (W : World), (callFunc 97 xs).run Try.prog W = .ok (.enter 97 xs) W := fun xs W => run_callFunc_go Try.func97 (by kernel_rfl) rfl xs W
theorem goDE : ∀ (xs : Array Value) (W : World), (callFunc 99 xs).run Try.prog W = .ok (.enter 99 xs) W := fun xs W => run_callFunc_go Try.func99 (by kernel_rfl) rfl xs W
theorem tk_go (op : Int) : ∀ (xs : Array Value) (W : World), (callFunc (tkOf op) xs).run Try.prog W = .ok (.enter (tkOf op) xs) W := by
  unfold tkOf
  split
  · exact goA
  split
  · exact goAB
  split
  · exact goABC
  split
  · exact goArgs
  · exact goNone
theorem mk_go (op : Int) : ∀ (xs : Array Value) (W : World), (callFunc (mkOf op) xs).run Try.prog W = .ok (.enter (mkOf op) xs) W := by
  unfold mkOf
  split
  · exact goAB
  split
  · exact goDE
  split
  · exact goNone
  · exact goD
theorem tk_run (m : Mach Sl) (w : World) (hm : kMach.rd w m) (hn : m.args.l.length * 8 ≤ 140737488355328) : Calls Try.prog (tkOf m.op) #[m.v] w (RetSl kI 3 w (takes m.p)) := by
  show Calls _ _ _ _ (RetSl kI _ w (takesOf m.op m.a m.b m.c m.args.l))
  unfold tkOf takesOf
  by_cases h : m.op = 1 ∨ 18 ≤ m.op ∧ m.op ≤ 22 ∨ m.op = 24 ∨ m.op = 31
  · rw [if_pos h, if_pos h]; exact kA m w
  rw [if_neg h, if_neg h]; clear h
  by_cases h : m.op = 2 ∨ 5 ≤ m.op ∧ m.op ≤ 17 ∨ m.op = 25 ∨ m.op = 26 ∨ m.op = 29
  · rw [if_pos h, if_pos h]; exact kAB m w
  rw [if_neg h, if_neg h]; clear h
  by_cases h : m.op = 23 ∨ m.op = 27
  · rw [if_pos h, if_pos h]; exact kABC m w
  rw [if_neg h, if_neg h]; clear h
  by_cases h : m.op = 28
  · rw [if_pos h, if_pos h]; exact kArgs m w hm hn
  · rw [if_neg h, if_neg h]; exact kNone m w
theorem mk_run (m : Mach Sl) (w : World) : Calls Try.prog (mkOf m.op) #[m.v] w (RetSl kI 3 w (makes m.p)) := by
  show Calls _ _ _ _ (RetSl kI _ w (makesOf m.op m.d m.e m.a m.b))
  unfold mkOf makesOf
  by_cases h : m.op = 2
  · rw [if_pos h, if_pos h]; exact kAB m w
  rw [if_neg h, if_neg h]; clear h
  by_cases h : m.op = 29
  · rw [if_pos h, if_pos h]; exact kDE m w
  rw [if_neg h, if_neg h]; clear h
  by_cases h : m.op = 26 ∨ m.op = 27 ∨ m.op = 31 ∨ m.op < 1 ∨ 31 < m.op
  · rw [if_pos h, if_pos h]; exact kNone m w
  · rw [if_neg h, if_neg h]; exact kD m w

set_option maxRecDepth 100000 in
set_option maxHeartbeats 400000 in
theorem machTakes (m : Mach Sl) (w : World) (hm : kMach.rd w m) (hn : m.args.l.length * 8 ≤ 140737488355328) : Calls Try.prog 24 #[m.v] w (RetSl kI 3 w (takes m.p)) := by
  have hm' := Lib.hid hm
  have hn' := Lib.hid hn
  clear hm hn
  have hgo := tk_go m.op
  have hfl : ∀ (x y : Fn) W, (Instr.field 106 (.agg #[.func x #[] #[], .func y #[] #[]]) 0).run Try.prog W = .ok (.func x #[] #[]) W := fun x y W => by kernel_rfl
  go_enter Try.func24, Try.ntmps24
  go_wp2_with fail
  go_region_with (first | (go_at_call 53; refine (kindOf _ _).mono ?_; rintro e w1 ⟨rfl, hb⟩; have hc := bcell hb; have hB := Lib.hid (show Below w.heap.size w w1 from by refine bthen ?_ hb; repeat (first | exact Below.refl _ _ | refine bal ?_ _ | refine Below.drew ?_)); clear hb) | ((refine (tk_run m _ (kI.sl.below hm'.out hB.out) hn'.out).mono ?_); rintro e w2 ⟨t, rfl, hl, ho, hb2⟩; have hl' := Lib.hid hl; have ho' := Lib.hid ho; have hb2' := Lib.hid hb2; clear hl ho hb2))
  all_goals go_wp2
  all_goals go_ret
  all_goals exact ⟨t, rfl, hl'.out, ho'.out.lower hB.out.size, bthen hB.out hb2'.out⟩

set_option maxRecDepth 100000 in
set_option maxHeartbeats 400000 in
theorem machMakes (m : Mach Sl) (w : World) : Calls Try.prog 25 #[m.v] w (RetSl kI 3 w (makes m.p)) := by
  have hgo := mk_go m.op
  have hfl : ∀ (x y : Fn) W, (Instr.field 106 (.agg #[.func x #[] #[], .func y #[] #[]]) 1).run Try.prog W = .ok (.func y #[] #[]) W := fun x y W => by kernel_rfl
  go_enter Try.func25, Try.ntmps25
  go_wp2_with fail
  go_region_with (first | (go_at_call 53; refine (kindOf _ _).mono ?_; rintro e w1 ⟨rfl, hb⟩; have hc := bcell hb; have hB := Lib.hid (show Below w.heap.size w w1 from by refine bthen ?_ hb; repeat (first | exact Below.refl _ _ | refine bal ?_ _ | refine Below.drew ?_)); clear hb) | ((refine (mk_run m _).mono ?_); rintro e w2 ⟨t, rfl, hl, ho, hb2⟩; have hl' := Lib.hid hl; have ho' := Lib.hid ho; have hb2' := Lib.hid hb2; clear hl ho hb2))
  all_goals go_wp2
  all_goals go_ret
  all_goals exact ⟨t, rfl, hl'.out, ho'.out.lower hB.out.size, bthen hB.out hb2'.out⟩

end Go.Proofs.Ytjlehpgfhlkjlaa
