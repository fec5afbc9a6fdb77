/-
  mach.end: what is wrong with an end alone.
-/
import Derived.Test.YtjlehpgfhlkjlaaPhi
import Derived.Test.YtjlehpgfhlkjlaaMap
set_option linter.all false
namespace Go.Proofs.Ytjlehpgfhlkjlaa
open Go.RowKit Jq

theorem end1_go : ∀ (xs : Array Value) (W : World), (callFunc 108 xs).run Try.prog W = .ok (.enter 108 xs) W := fun xs W => run_callFunc_go Try.func108 (by kernel_rfl) rfl xs W
set_option maxRecDepth 100000 in
set_option maxHeartbeats 400000 in
theorem end1 (r : Int) (b : Nat) (n : Int) (w : World) (hc : w.cell? ⟨b, 0, none⟩ = some (.int .i64 n)) : Calls Try.prog 108 #[.int .i64 r, .pointer (some ⟨b, 0, none⟩)] w fun e w' => e = .returned (.bool (decide (r < 1 ∨ n ≤ r))) ∧ Below w.heap.size w w' := by
  have hop : r < 1 ∨ ¬ r < 1 := by omega
  rcases hop with hop | hop
  all_goals go_enter Try.func108, Try.ntmps108
  all_goals go_wp2
  all_goals go_ret
  · exact ret_bool (by rw [eq_comm, decide_eq_true_eq]; omega) (Below.refl _ _)
  · exact ret_bool (by simp only [show ¬ r < 1 from by omega, false_or]; first | done | simp) (Below.refl _ _)

set_option maxRecDepth 100000 in
set_option maxHeartbeats 1000000 in
theorem end_unknown (x : Jq.End Sl) (n : Int) (w : World) (hL : lk [(1, .agg #[.int .i64 1, .int .i64 1]), (2, .agg #[.int .i64 2, .int .i64 2]), (3, .agg #[.int .i64 2, .int .i64 2]), (4, .agg #[.int .i64 2, .int .i64 2]), (5, .agg #[.int .i64 2, .int .i64 2]), (6, .agg #[.int .i64 2, .int .i64 65]), (7, .agg #[.int .i64 0, .int .i64 0]), (8, .agg #[.int .i64 0, .int .i64 0])] x.op = none) :
    Calls Try.prog 74 #[x.v, .int .i64 n] w fun e w' => e = .returned (.int .i64 30) ∧ Below w.heap.size w w' := by
  have hL' := Lib.hid hL
  clear hL
  have hlc := lk_cons
  have hln := lk_nil
  have hmm := run_newMap (P := Try.prog) 141 .i64
  have hins := run_newKey (P := Try.prog) 141 3 _ .i64 Try.underlying141 Try.underlying3
  go_enter Try.func74, Try.ntmps74
  go_wp2
  clear hlc hln hmm hins
  have hask := run_askLast2 (P := Try.prog) 141 3 _ .i64 Try.underlying141 Try.underlying3 (.agg #[.int .i64 0, .int .i64 0]) (fun w => by kernel_rfl)
  have hL := hL'.out
  go_simp
  clear hask
  go_wp2
  go_ret
  exact ⟨rfl, (by repeat (first | exact Below.refl _ _ | refine bal ?_ _ | refine bset ?_ _ _ (by simp; omega)))⟩

set_option maxRecDepth 100000 in
set_option maxHeartbeats 1000000 in
theorem end_few (x : Jq.End Sl) (n lo hi : Int) (w : World) (hx : kEnd.rd w x) (hL : lk [(1, .agg #[.int .i64 1, .int .i64 1]), (2, .agg #[.int .i64 2, .int .i64 2]), (3, .agg #[.int .i64 2, .int .i64 2]), (4, .agg #[.int .i64 2, .int .i64 2]), (5, .agg #[.int .i64 2, .int .i64 2]), (6, .agg #[.int .i64 2, .int .i64 65]), (7, .agg #[.int .i64 0, .int .i64 0]), (8, .agg #[.int .i64 0, .int .i64 0])] x.op = some (.agg #[.int .i64 lo, .int .i64 hi])) (h1 : (x.to.l.length : Int) < lo) :
    Calls Try.prog 74 #[x.v, .int .i64 n] w fun e w' => e = .returned (.int .i64 30) ∧ Below w.heap.size w w' := by
  have hx' := Lib.hid hx
  have hL' := Lib.hid hL
  clear hx hL
  have hlc := lk_cons
  have hln := lk_nil
  have hmm := run_newMap (P := Try.prog) 141 .i64
  have hins := run_newKey (P := Try.prog) 141 3 _ .i64 Try.underlying141 Try.underlying3
  go_enter Try.func74, Try.ntmps74
  go_wp2
  clear hlc hln hmm hins
  have hask := run_askLast2 (P := Try.prog) 141 3 _ .i64 Try.underlying141 Try.underlying3 (.agg #[.int .i64 0, .int .i64 0]) (fun w => by kernel_rfl)
  have hL := hL'.out
  go_simp
  clear hask hL
  have d0 : decide ((x.to.l.length : Int) < lo) = true := by simpa using h1
  go_wp2
  go_ret
  exact ⟨rfl, (by repeat (first | exact Below.refl _ _ | refine bal ?_ _ | refine bset ?_ _ _ (by simp; omega)))⟩

set_option maxRecDepth 100000 in
set_option maxHeartbeats 1000000 in
theorem end_many (x : Jq.End Sl) (n lo hi : Int) (w : World) (hx : kEnd.rd w x) (hL : lk [(1, .agg #[.int .i64 1, .int .i64 1]), (2, .agg #[.int .i64 2, .int .i64 2]), (3, .agg #[.int .i64 2, .int .i64 2]), (4, .agg #[.int .i64 2, .int .i64 2]), (5, .agg #[.int .i64 2, .int .i64 2]), (6, .agg #[.int .i64 2, .int .i64 65]), (7, .agg #[.int .i64 0, .int .i64 0]), (8, .agg #[.int .i64 0, .int .i64 0])] x.op = some (.agg #[.int .i64 lo, .int .i64 hi])) (h0 : ¬ (x.to.l.length : Int) < lo) (h1 : hi < (x.to.l.length : Int)) :
    Calls Try.prog 74 #[x.v, .int .i64 n] w fun e w' => e = .returned (.int .i64 30) ∧ Below w.heap.size w w' := by
  have hx' := Lib.hid hx
  have hL' := Lib.hid hL
  clear hx hL
  have hlc := lk_cons
  have hln := lk_nil
  have hmm := run_newMap (P := Try.prog) 141 .i64
  have hins := run_newKey (P := Try.prog) 141 3 _ .i64 Try.underlying141 Try.underlying3
  go_enter Try.func74, Try.ntmps74
  go_wp2
  clear hlc hln hmm hins
  have hask := run_askLast2 (P := Try.prog) 141 3 _ .i64 Try.underlying141 Try.underlying3 (.agg #[.int .i64 0, .int .i64 0]) (fun w => by kernel_rfl)
  have hL := hL'.out
  go_simp
  clear hask hL
  have d0 : decide ((x.to.l.length : Int) < lo) = false := by simpa using h0
  have d1 : decide (hi < (x.to.l.length : Int)) = true := by simpa using h1
  go_wp2
  go_ret
  exact ⟨rfl, (by repeat (first | exact Below.refl _ _ | refine bal ?_ _ | refine bset ?_ _ _ (by simp; omega)))⟩

set_option maxRecDepth 100000 in
set_option maxHeartbeats 1000000 in
theorem end_regs (x : Jq.End Sl) (n lo hi : Int) (w : World) (hx : kEnd.rd w x) (hL : lk [(1, .agg #[.int .i64 1, .int .i64 1]), (2, .agg #[.int .i64 2, .int .i64 2]), (3, .agg #[.int .i64 2, .int .i64 2]), (4, .agg #[.int .i64 2, .int .i64 2]), (5, .agg #[.int .i64 2, .int .i64 2]), (6, .agg #[.int .i64 2, .int .i64 65]), (7, .agg #[.int .i64 0, .int .i64 0]), (8, .agg #[.int .i64 0, .int .i64 0])] x.op = some (.agg #[.int .i64 lo, .int .i64 hi])) (h0 : ¬ (x.to.l.length : Int) < lo) (h1 : ¬ hi < (x.to.l.length : Int)) (hnd : (needs x.p).any badReg = true) :
    Calls Try.prog 74 #[x.v, .int .i64 n] w fun e w' => e = .returned (.int .i64 31) ∧ Below w.heap.size w w' := by
  have hx' := Lib.hid hx
  have hL' := Lib.hid hL
  clear hx hL
  have hnd' := Lib.hid hnd
  clear hnd
  have hlc := lk_cons
  have hln := lk_nil
  have hmm := run_newMap (P := Try.prog) 141 .i64
  have hins := run_newKey (P := Try.prog) 141 3 _ .i64 Try.underlying141 Try.underlying3
  go_enter Try.func74, Try.ntmps74
  go_wp2
  clear hlc hln hmm hins
  have hask := run_askLast2 (P := Try.prog) 141 3 _ .i64 Try.underlying141 Try.underlying3 (.agg #[.int .i64 0, .int .i64 0]) (fun w => by kernel_rfl)
  have hL := hL'.out
  go_simp
  clear hask hL
  have d0 : decide ((x.to.l.length : Int) < lo) = false := by simpa using h0
  have d1 : decide (hi < (x.to.l.length : Int)) = false := by simpa using h1
  go_wp2_with fail
  refine (machNeeds x _).mono ?_
  rintro e w1 ⟨t1, rfl, hl1, ho1, hb1⟩
  have hc1 : ∀ b o, b < w.heap.size + 2 → w1.cell? ⟨b, o, none⟩ = ((w.alloc (.cells #[.int .i64 x.op, .int .i64 x.a, .int .i64 x.b, x.to.val, .int .i32 x.imm] 59)).alloc (.cells #[.int .i64 n] 3)).cell? ⟨b, o, none⟩ := fun b o h => (bcell hb1 b o (by simp; omega)).trans ((World.cell?_of_block (Below.heap_alloc _ _ _ (by simp; omega))).trans (World.cell?_of_block (Below.heap_alloc _ _ _ (by simp; omega))))
  have hl1' := Lib.hid hl1
  have ho1' := Lib.hid ho1
  have hsz1' := Lib.hid (show w.heap.size + 2 ≤ w1.heap.size by have := hb1.size; simp at this; omega)
  have hb1' := Lib.hid (show Below w.heap.size w w1 from by refine bthen ?_ hb1; repeat (first | exact Below.refl _ _ | refine bal ?_ _ | refine bset ?_ _ _ (by simp; omega)))
  clear hl1 ho1 hb1
  go_wp2_with fail
  refine (machRegs t1 _ ho1'.out.rd).mono ?_
  rintro e w2 ⟨rfl, hb2⟩
  rw [hl1'.out, hnd'.out]
  have hc2 : ∀ b o, b < w.heap.size + 2 → w2.cell? ⟨b, o, none⟩ = w1.cell? ⟨b, o, none⟩ := fun b o h => bcell hb2 b o (by have := hsz1'.out; omega)
  have hsz2' := Lib.hid (show w.heap.size + 2 ≤ w2.heap.size by have := hb2.size; have := hsz1'.out; omega)
  have hb2' := Lib.hid (bthen hb1'.out hb2)
  clear hb2
  go_wp2
  go_ret
  exact ⟨rfl, hb2'.out⟩

set_option maxRecDepth 100000 in
set_option maxHeartbeats 1000000 in
theorem end_14 (x : Jq.End Sl) (n lo hi : Int) (w : World) (hx : kEnd.rd w x) (hL : lk [(1, .agg #[.int .i64 1, .int .i64 1]), (2, .agg #[.int .i64 2, .int .i64 2]), (3, .agg #[.int .i64 2, .int .i64 2]), (4, .agg #[.int .i64 2, .int .i64 2]), (5, .agg #[.int .i64 2, .int .i64 2]), (6, .agg #[.int .i64 2, .int .i64 65]), (7, .agg #[.int .i64 0, .int .i64 0]), (8, .agg #[.int .i64 0, .int .i64 0])] x.op = some (.agg #[.int .i64 lo, .int .i64 hi])) (h0 : ¬ (x.to.l.length : Int) < lo) (h1 : ¬ hi < (x.to.l.length : Int)) (hnd : (needs x.p).any badReg = false) (hto : (x.to.l.any fun r => decide (r < 1 ∨ n ≤ r)) = true) :
    Calls Try.prog 74 #[x.v, .int .i64 n] w fun e w' => e = .returned (.int .i64 14) ∧ Below w.heap.size w w' := by
  have hx' := Lib.hid hx
  have hL' := Lib.hid hL
  clear hx hL
  have hnd' := Lib.hid hnd
  clear hnd
  have hto' := Lib.hid hto
  clear hto
  have hlc := lk_cons
  have hln := lk_nil
  have hmm := run_newMap (P := Try.prog) 141 .i64
  have hins := run_newKey (P := Try.prog) 141 3 _ .i64 Try.underlying141 Try.underlying3
  go_enter Try.func74, Try.ntmps74
  go_wp2
  clear hlc hln hmm hins
  have hask := run_askLast2 (P := Try.prog) 141 3 _ .i64 Try.underlying141 Try.underlying3 (.agg #[.int .i64 0, .int .i64 0]) (fun w => by kernel_rfl)
  have hL := hL'.out
  go_simp
  clear hask hL
  have d0 : decide ((x.to.l.length : Int) < lo) = false := by simpa using h0
  have d1 : decide (hi < (x.to.l.length : Int)) = false := by simpa using h1
  go_wp2_with fail
  refine (machNeeds x _).mono ?_
  rintro e w1 ⟨t1, rfl, hl1, ho1, hb1⟩
  have hc1 : ∀ b o, b < w.heap.size + 2 → w1.cell? ⟨b, o, none⟩ = ((w.alloc (.cells #[.int .i64 x.op, .int .i64 x.a, .int .i64 x.b, x.to.val, .int .i32 x.imm] 59)).alloc (.cells #[.int .i64 n] 3)).cell? ⟨b, o, none⟩ := fun b o h => (bcell hb1 b o (by simp; omega)).trans ((World.cell?_of_block (Below.heap_alloc _ _ _ (by simp; omega))).trans (World.cell?_of_block (Below.heap_alloc _ _ _ (by simp; omega))))
  have hl1' := Lib.hid hl1
  have ho1' := Lib.hid ho1
  have hsz1' := Lib.hid (show w.heap.size + 2 ≤ w1.heap.size by have := hb1.size; simp at this; omega)
  have hb1' := Lib.hid (show Below w.heap.size w w1 from by refine bthen ?_ hb1; repeat (first | exact Below.refl _ _ | refine bal ?_ _ | refine bset ?_ _ _ (by simp; omega)))
  clear hl1 ho1 hb1
  go_wp2_with fail
  refine (machRegs t1 _ ho1'.out.rd).mono ?_
  rintro e w2 ⟨rfl, hb2⟩
  rw [hl1'.out, hnd'.out]
  have hc2 : ∀ b o, b < w.heap.size + 2 → w2.cell? ⟨b, o, none⟩ = w1.cell? ⟨b, o, none⟩ := fun b o h => bcell hb2 b o (by have := hsz1'.out; omega)
  have hsz2' := Lib.hid (show w.heap.size + 2 ≤ w2.heap.size by have := hb2.size; have := hsz1'.out; omega)
  have hb2' := Lib.hid (bthen hb1'.out hb2)
  clear hb2
  go_wp2_with fail
  refine (containsFuncInt x.to 108 #[.pointer (some ⟨w.heap.size + 1, 0, none⟩)] (fun r => decide (r < 1 ∨ n ≤ r)) _ (kI.sl.below hx'.out hb2'.out) ⟨end1_go, fun y _ W hW => end1 y (w.heap.size + 1) n W ((bcell hW _ _ (by have := hsz2'.out; omega)).trans ((hc2 _ _ (by omega)).trans ((hc1 _ _ (by omega)).trans (by simp))))⟩).mono ?_
  rintro e w3 ⟨rfl, hb3⟩
  rw [hto'.out]
  have hb3' := Lib.hid (bthen hb2'.out hb3)
  clear hb3
  go_wp2
  go_ret
  exact ⟨rfl, hb3'.out⟩

set_option maxRecDepth 100000 in
set_option maxHeartbeats 1000000 in
theorem end_0 (x : Jq.End Sl) (n lo hi : Int) (w : World) (hx : kEnd.rd w x) (hL : lk [(1, .agg #[.int .i64 1, .int .i64 1]), (2, .agg #[.int .i64 2, .int .i64 2]), (3, .agg #[.int .i64 2, .int .i64 2]), (4, .agg #[.int .i64 2, .int .i64 2]), (5, .agg #[.int .i64 2, .int .i64 2]), (6, .agg #[.int .i64 2, .int .i64 65]), (7, .agg #[.int .i64 0, .int .i64 0]), (8, .agg #[.int .i64 0, .int .i64 0])] x.op = some (.agg #[.int .i64 lo, .int .i64 hi])) (h0 : ¬ (x.to.l.length : Int) < lo) (h1 : ¬ hi < (x.to.l.length : Int)) (hnd : (needs x.p).any badReg = false) (hto : (x.to.l.any fun r => decide (r < 1 ∨ n ≤ r)) = false) :
    Calls Try.prog 74 #[x.v, .int .i64 n] w fun e w' => e = .returned (.int .i64 0) ∧ Below w.heap.size w w' := by
  have hx' := Lib.hid hx
  have hL' := Lib.hid hL
  clear hx hL
  have hnd' := Lib.hid hnd
  clear hnd
  have hto' := Lib.hid hto
  clear hto
  have hlc := lk_cons
  have hln := lk_nil
  have hmm := run_newMap (P := Try.prog) 141 .i64
  have hins := run_newKey (P := Try.prog) 141 3 _ .i64 Try.underlying141 Try.underlying3
  go_enter Try.func74, Try.ntmps74
  go_wp2
  clear hlc hln hmm hins
  have hask := run_askLast2 (P := Try.prog) 141 3 _ .i64 Try.underlying141 Try.underlying3 (.agg #[.int .i64 0, .int .i64 0]) (fun w => by kernel_rfl)
  have hL := hL'.out
  go_simp
  clear hask hL
  have d0 : decide ((x.to.l.length : Int) < lo) = false := by simpa using h0
  have d1 : decide (hi < (x.to.l.length : Int)) = false := by simpa using h1
  go_wp2_with fail
  refine (machNeeds x _).mono ?_
  rintro e w1 ⟨t1, rfl, hl1, ho1, hb1⟩
  have hc1 : ∀ b o, b < w.heap.size + 2 → w1.cell? ⟨b, o, none⟩ = ((w.alloc (.cells #[.int .i64 x.op, .int .i64 x.a, .int .i64 x.b, x.to.val, .int .i32 x.imm] 59)).alloc (.cells #[.int .i64 n] 3)).cell? ⟨b, o, none⟩ := fun b o h => (bcell hb1 b o (by simp; omega)).trans ((World.cell?_of_block (Below.heap_alloc _ _ _ (by simp; omega))).trans (World.cell?_of_block (Below.heap_alloc _ _ _ (by simp; omega))))
  have hl1' := Lib.hid hl1
  have ho1' := Lib.hid ho1
  have hsz1' := Lib.hid (show w.heap.size + 2 ≤ w1.heap.size by have := hb1.size; simp at this; omega)
  have hb1' := Lib.hid (show Below w.heap.size w w1 from by refine bthen ?_ hb1; repeat (first | exact Below.refl _ _ | refine bal ?_ _ | refine bset ?_ _ _ (by simp; omega)))
  clear hl1 ho1 hb1
  go_wp2_with fail
  refine (machRegs t1 _ ho1'.out.rd).mono ?_
  rintro e w2 ⟨rfl, hb2⟩
  rw [hl1'.out, hnd'.out]
  have hc2 : ∀ b o, b < w.heap.size + 2 → w2.cell? ⟨b, o, none⟩ = w1.cell? ⟨b, o, none⟩ := fun b o h => bcell hb2 b o (by have := hsz1'.out; omega)
  have hsz2' := Lib.hid (show w.heap.size + 2 ≤ w2.heap.size by have := hb2.size; have := hsz1'.out; omega)
  have hb2' := Lib.hid (bthen hb1'.out hb2)
  clear hb2
  go_wp2_with fail
  refine (containsFuncInt x.to 108 #[.pointer (some ⟨w.heap.size + 1, 0, none⟩)] (fun r => decide (r < 1 ∨ n ≤ r)) _ (kI.sl.below hx'.out hb2'.out) ⟨end1_go, fun y _ W hW => end1 y (w.heap.size + 1) n W ((bcell hW _ _ (by have := hsz2'.out; omega)).trans ((hc2 _ _ (by omega)).trans ((hc1 _ _ (by omega)).trans (by simp))))⟩).mono ?_
  rintro e w3 ⟨rfl, hb3⟩
  rw [hto'.out]
  have hb3' := Lib.hid (bthen hb2'.out hb3)
  clear hb3
  go_wp2
  go_ret
  exact ⟨rfl, hb3'.out⟩

theorem lims_eq (op : Int) : lk [(1, .agg #[.int .i64 1, .int .i64 1]), (2, .agg #[.int .i64 2, .int .i64 2]), (3, .agg #[.int .i64 2, .int .i64 2]), (4, .agg #[.int .i64 2, .int .i64 2]), (5, .agg #[.int .i64 2, .int .i64 2]), (6, .agg #[.int .i64 2, .int .i64 65]), (7, .agg #[.int .i64 0, .int .i64 0]), (8, .agg #[.int .i64 0, .int .i64 0])] op = if op = 1 then some (.agg #[.int .i64 1, .int .i64 1]) else if 2 ≤ op ∧ op ≤ 5 then some (.agg #[.int .i64 2, .int .i64 2]) else if op = 6 then some (.agg #[.int .i64 2, .int .i64 65]) else if op = 7 ∨ op = 8 then some (.agg #[.int .i64 0, .int .i64 0]) else none := by
  have h : op = 1 ∨ op = 2 ∨ op = 3 ∨ op = 4 ∨ op = 5 ∨ op = 6 ∨ op = 7 ∨ op = 8 ∨ (op < 1 ∨ 8 < op) := by omega
  rcases h with rfl | rfl | rfl | rfl | rfl | rfl | rfl | rfl | h
  case inr.inr.inr.inr.inr.inr.inr.inr =>
    simp only [lk_cons, lk_nil]
    repeat rw [if_neg (by omega)]
  all_goals simp [lk_cons]
theorem machEnd (x : Jq.End Sl) (n : Int) (w : World) (hx : kEnd.rd w x) :
    Calls Try.prog 74 #[x.v, .int .i64 n] w fun e w' => e = .returned (.int .i64 (endErr x.p n)) ∧ Below w.heap.size w w' := by
  have good : ∀ lo hi : Nat, lk [(1, .agg #[.int .i64 1, .int .i64 1]), (2, .agg #[.int .i64 2, .int .i64 2]), (3, .agg #[.int .i64 2, .int .i64 2]), (4, .agg #[.int .i64 2, .int .i64 2]), (5, .agg #[.int .i64 2, .int .i64 2]), (6, .agg #[.int .i64 2, .int .i64 65]), (7, .agg #[.int .i64 0, .int .i64 0]), (8, .agg #[.int .i64 0, .int .i64 0])] x.op = some (.agg #[.int .i64 lo, .int .i64 hi]) → toOk x.op x.to.l.length = decide (lo ≤ x.to.l.length ∧ x.to.l.length ≤ hi) →
      Calls Try.prog 74 #[x.v, .int .i64 n] w fun e w' => e = .returned (.int .i64 (endErr x.p n)) ∧ Below w.heap.size w w' := by
    intro lo hi hL ht
    have e : endErr x.p n = if !toOk x.op x.to.l.length then 30 else if (needs x.p).any badReg then 31 else if x.to.l.any (fun b => decide (b < 1 ∨ n ≤ b)) then 14 else 0 := rfl
    rw [e, ht]
    by_cases h0 : x.to.l.length < lo
    · rw [if_pos (by simp; omega)]; exact end_few x n lo hi w hx hL (by omega)
    by_cases h1 : hi < x.to.l.length
    · rw [if_pos (by simp; omega)]; exact end_many x n lo hi w hx hL (by omega) (by omega)
    rw [if_neg (by simp; omega)]
    cases hnd : (needs x.p).any badReg with
    | true => rw [if_pos rfl]; exact end_regs x n lo hi w hx hL (by omega) (by omega) hnd
    | false =>
      rw [if_neg (by simp)]
      cases hto : x.to.l.any (fun b => decide (b < 1 ∨ n ≤ b)) with
      | true => rw [if_pos rfl]; exact end_14 x n lo hi w hx hL (by omega) (by omega) hnd hto
      | false => rw [if_neg (by simp)]; exact end_0 x n lo hi w hx hL (by omega) (by omega) hnd hto
  have hl := lims_eq x.op
  by_cases h1 : x.op = 1
  · rw [if_pos h1] at hl; exact good 1 1 hl (by unfold toOk; rw [if_pos h1]; congr 1; simp; omega)
  rw [if_neg h1] at hl
  by_cases h2 : 2 ≤ x.op ∧ x.op ≤ 5
  · rw [if_pos h2] at hl; exact good 2 2 hl (by unfold toOk; rw [if_neg h1, if_pos h2]; congr 1; simp; omega)
  rw [if_neg h2] at hl
  by_cases h3 : x.op = 6
  · rw [if_pos h3] at hl; exact good 2 65 hl (by unfold toOk; rw [if_neg h1, if_neg h2, if_pos h3])
  rw [if_neg h3] at hl
  by_cases h4 : x.op = 7 ∨ x.op = 8
  · rw [if_pos h4] at hl; exact good 0 0 hl (by unfold toOk; rw [if_neg h1, if_neg h2, if_neg h3, if_pos h4]; congr 1; simp)
  rw [if_neg h4] at hl
  have e : endErr x.p n = 30 := by
    show (if !toOk x.op x.to.l.length then (30 : Int) else _) = 30
    unfold toOk
    rw [if_neg h1, if_neg h2, if_neg h3, if_neg h4]
    rfl
  rw [e]
  exact end_unknown x n w hl
end Go.Proofs.Ytjlehpgfhlkjlaa
