/-
  What an instruction takes and makes: mach.Takes, mach.Makes, mach.Needs.
-/
import Derived.Test.YtjlehpgfhlkjlaaKind
import Derived.Test.YtjlehpgfhlkjlaaClone
import Derived.Test.YtjlehpgfhlkjlaaPMach
import Derived.Deep.RegionHeld3
set_option linter.all false
namespace Go.Proofs.Ytjlehpgfhlkjlaa
open Go.RowKit Jq
theorem lit_ret (w W : World) (l : List Int) (g : Nat) (hg : g = W.heap.size) (hb : Below w.heap.size w W) (hn : l.length ≤ 4) : RetSl kI 3 w l (.returned (.slice (some ⟨g, 0, none⟩) l.length l.length)) (W.alloc (.cells (l.map (.int .i64)).toArray 3)) := by
  subst hg
  exact ⟨⟨some ⟨W.heap.size, 0, none⟩, l.length, l⟩, rfl, rfl, own_lit (.int .i64) _ _ W l hb.size (by omega), bal hb _⟩
theorem nil_ret (w W : World) (hb : Below w.heap.size w W) : RetSl kI 3 w [] (.returned (.slice none 0 0)) W := ⟨nilSl, rfl, rfl, Own.nil _ _ _ _, hb⟩

set_option maxRecDepth 100000 in
set_option maxHeartbeats 400000 in
theorem kNone (m : Mach Sl) (w : World) : Calls Try.prog 92 #[m.v] w (RetSl kI 3 w []) := by
  go_enter Try.func92, Try.ntmps92
  go_wp2
  go_ret
  exact nil_ret _ _ (bal (Below.refl _ _) _)

set_option maxRecDepth 100000 in
set_option maxHeartbeats 400000 in
theorem kD (m : Mach Sl) (w : World) : Calls Try.prog 93 #[m.v] w (RetSl kI 3 w [m.d]) := by
  go_enter Try.func93, Try.ntmps93
  go_wp2
  go_ret
  exact lit_ret _ (w.alloc _) [m.d] _ (by simp) (bal (Below.refl _ _) _) (by simp)

set_option maxRecDepth 100000 in
set_option maxHeartbeats 400000 in
theorem kA (m : Mach Sl) (w : World) : Calls Try.prog 94 #[m.v] w (RetSl kI 3 w [m.a]) := by
  go_enter Try.func94, Try.ntmps94
  go_wp2
  go_ret
  exact lit_ret _ (w.alloc _) [m.a] _ (by simp) (bal (Below.refl _ _) _) (by simp)

set_option maxRecDepth 100000 in
set_option maxHeartbeats 400000 in
theorem kAB (m : Mach Sl) (w : World) : Calls Try.prog 95 #[m.v] w (RetSl kI 3 w [m.a, m.b]) := by
  go_enter Try.func95, Try.ntmps95
  go_wp2
  go_ret
  exact lit_ret _ (w.alloc _) [m.a, m.b] _ (by simp) (bal (Below.refl _ _) _) (by simp)

set_option maxRecDepth 100000 in
set_option maxHeartbeats 400000 in
theorem kABC (m : Mach Sl) (w : World) : Calls Try.prog 96 #[m.v] w (RetSl kI 3 w [m.a, m.b, m.c]) := by
  go_enter Try.func96, Try.ntmps96
  go_wp2
  go_ret
  exact lit_ret _ (w.alloc _) [m.a, m.b, m.c] _ (by simp) (bal (Below.refl _ _) _) (by simp)

set_option maxRecDepth 100000 in
set_option maxHeartbeats 400000 in
theorem kDE (m : Mach Sl) (w : World) : Calls Try.prog 99 #[m.v] w (RetSl kI 3 w [m.d, m.e]) := by
  go_enter Try.func99, Try.ntmps99
  go_wp2
  go_ret
  exact lit_ret _ (w.alloc _) [m.d, m.e] _ (by simp) (bal (Below.refl _ _) _) (by simp)

set_option maxRecDepth 100000 in
set_option maxHeartbeats 400000 in
theorem kArgs (m : Mach Sl) (w : World) (hm : kMach.rd w m) (hn : m.args.l.length * 8 ≤ 140737488355328) : Calls Try.prog 97 #[m.v] w (RetSl kI 3 w m.args.l) := by
  have hc := Lib.hid (cloneInt m.args (w.alloc (.cells #[.int .i64 m.op, .int .i64 m.d, .int .i64 m.e, .int .i64 m.a, .int .i64 m.b, .int .i64 m.c, .int .i32 m.imm, m.args.val] 40)) (kI.sl.below hm (bal (Below.refl _ _) _)) hn)
  clear hm
  go_enter Try.func97, Try.ntmps97
  go_wp2_with (go_at_call 98; (refine hc.out.mono ?_); rintro e w1 ⟨t, rfl, hl, ho, hb⟩; have hl' := Lib.hid hl; have ho' := Lib.hid ho; have hb' := Lib.hid hb; clear hl ho hb)
  go_ret
  exact ⟨t, rfl, hl'.out, ho'.out.lower (by simp), bthen (bal (Below.refl _ _) _) hb'.out⟩
end Go.Proofs.Ytjlehpgfhlkjlaa
