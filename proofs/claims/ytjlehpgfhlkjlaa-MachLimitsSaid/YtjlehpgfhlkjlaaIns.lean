/-
  mach.imm, mach.ins: what is wrong with an instruction alone.
-/
import Derived.Test.YtjlehpgfhlkjlaaSmall
import Derived.Test.YtjlehpgfhlkjlaaTakes2
import Derived.BigGuardPart
set_option linter.all false
namespace Go.Proofs.Ytjlehpgfhlkjlaa
open Go.RowKit Jq

set_option maxRecDepth 100000 in
set_option maxHeartbeats 2000000 in
theorem machImm (m : Mach Sl) (w : World) : Calls Try.prog 105 #[m.v] w fun e w' => e = .returned (.bool (immOk m.op m.imm)) ∧ Below w.heap.size w w' := by
  rcases m with ⟨op, d, e, a, b, c, imm, args⟩
  show Calls _ _ #[.agg #[.int .i64 op, .int .i64 d, .int .i64 e, .int .i64 a, .int .i64 b, .int .i64 c, .int .i32 imm, args.val]] w fun e w' => e = .returned (.bool (immOk op imm)) ∧ Below w.heap.size w w'
  have hop : op = 3 ∨ op = 18 ∨ op = 19 ∨ op = 20 ∨ op = 21 ∨ op = 22 ∨ op = 24 ∨ op = 26 ∨ (¬ op = 3 ∧ ¬ op = 18 ∧ ¬ op = 19 ∧ ¬ op = 20 ∧ ¬ op = 21 ∧ ¬ op = 22 ∧ ¬ op = 24 ∧ ¬ op = 26) := by omega
  rcases hop with rfl | rfl | rfl | rfl | rfl | rfl | rfl | rfl | ⟨e1, e2, e3, e4, e5, e6, e7, e8⟩
  case inr.inr.inr.inr.inr.inr.inr.inr =>
    have hi : immOk op imm = true := by unfold immOk; rw [if_neg e1, if_neg (by omega), if_neg (by omega), if_neg (by omega)]
    rw [hi]
    clear hi
    go_enter Try.func105, Try.ntmps105
    go_wp2
    go_ret
    exact ⟨rfl, bal (Below.refl _ _) _⟩
  case inl =>
    go_enter Try.func105, Try.ntmps105
    go_wp2_with (go_at_call 124; (refine (wordFits16 _ _).mono ?_); rintro e w1 ⟨rfl, rfl⟩)
    go_ret
    exact ret_bool rfl (bal (Below.refl _ _) _)
  case inr.inl =>
    go_enter Try.func105, Try.ntmps105
    go_wp2_with (go_at_call 124; (refine (wordFits8 _ _).mono ?_); rintro e w1 ⟨rfl, rfl⟩)
    go_ret
    exact ret_bool rfl (bal (Below.refl _ _) _)
  case inr.inr.inl =>
    go_enter Try.func105, Try.ntmps105
    go_wp2_with (go_at_call 124; (refine (wordFits8 _ _).mono ?_); rintro e w1 ⟨rfl, rfl⟩)
    go_ret
    exact ret_bool rfl (bal (Below.refl _ _) _)
  all_goals
    go_enter Try.func105, Try.ntmps105
    go_wp2
    go_ret
    exact ret_bool rfl (bal (Below.refl _ _) _)


set_option maxRecDepth 100000 in
set_option maxHeartbeats 2000000 in
theorem ins_head (m : Mach Sl) (w : World) (hm : kMach.rd w m) (hn : m.args.l.length * 8 ≤ 140737488355328) (h : m.op < 1 ∨ 29 < m.op ∨ m.op = 2 ∨ (m.op = 28 ∧ 4 < m.args.l.length)) :
    Calls Try.prog 73 #[m.v] w fun e w' => e = .returned (.int .i64 30) ∧ Below w.heap.size w w' := by
  have hm' := Lib.hid hm
  have hn' := Lib.hid hn
  have hn2 : m.args.l.length * 8 ≤ 140737488355328 := hn
  clear hm hn
  have hop : m.op < 1 ∨ (¬ m.op < 1 ∧ 29 < m.op) ∨ m.op = 2 ∨ (m.op = 28 ∧ 4 < m.args.l.length) := by omega
  clear h
  rcases hop with h1 | ⟨h0, h1⟩ | h1 | ⟨h1, h2⟩
  case inl =>
    go_enter Try.func73, Try.ntmps73
    go_wp2
    all_goals go_ret
    all_goals exact ⟨rfl, bal (Below.refl _ _) _⟩
  case inr.inl =>
    go_enter Try.func73, Try.ntmps73
    go_wp2
    all_goals go_ret
    all_goals exact ⟨rfl, bal (Below.refl _ _) _⟩
  case inr.inr.inl =>
    have e0 : ¬ m.op < 1 := by omega
    have e1 : ¬ 29 < m.op := by omega
    have e2 : (m.op == 2) = true := by simpa using h1
    clear h1
    go_enter Try.func73, Try.ntmps73
    go_wp2
    all_goals go_ret
    all_goals exact ⟨rfl, bal (Below.refl _ _) _⟩
  case inr.inr.inr =>
    have e0 : ¬ m.op < 1 := by omega
    have e1 : ¬ 29 < m.op := by omega
    have e2 : (m.op == 2) = false := by simp; omega
    have e3 : (m.op == 28) = true := by simpa using h1
    have e4 : (4 : Int) < (m.args.l.length : Int) := by omega
    clear h1 h2
    go_enter Try.func73, Try.ntmps73
    go_wp2
    all_goals go_ret
    all_goals exact ⟨rfl, bal (Below.refl _ _) _⟩

set_option maxRecDepth 100000 in
set_option maxHeartbeats 2000000 in
theorem ins_makes28 (m : Mach Sl) (w : World) (hm : kMach.rd w m) (hn : m.args.l.length * 8 ≤ 140737488355328) (e0 : ¬ m.op < 1) (e1 : ¬ 29 < m.op) (e2 : (m.op == 2) = false) (e3 : (m.op == 28) = true) (e4 : ¬ (4 : Int) < (m.args.l.length : Int)) (hmk : (makes m.p).any badReg = true) :
    Calls Try.prog 73 #[m.v] w fun e w' => e = .returned (.int .i64 31) ∧ Below w.heap.size w w' := by
  have hm' := Lib.hid hm
  have hn' := Lib.hid hn
  have hn2 : m.args.l.length * 8 ≤ 140737488355328 := hn
  clear hm hn
  have hmk' := Lib.hid hmk
  clear hmk
  go_enter Try.func73, Try.ntmps73
  go_wp2_with fail
  refine (machMakes m _).mono ?_
  rintro e w1 ⟨t1, rfl, hl1, ho1, hb1⟩
  have hl1' := Lib.hid hl1; have ho1' := Lib.hid ho1; have hb1' := Lib.hid (bthen (bal (Below.refl _ w) _) hb1); have hc1 := bcell hb1; have hsz1' := Lib.hid (show w.heap.size + 1 ≤ w1.heap.size by have := hb1.size; simp at this; omega); clear hl1 ho1 hb1
  go_wp2_with fail
  refine (machRegs t1 _ ho1'.out.rd).mono ?_
  rintro e w2 ⟨rfl, hb2⟩
  rw [hl1'.out, hmk'.out]
  have hc2 : ∀ b o, b < w.heap.size + 1 → w2.cell? ⟨b, o, none⟩ = w1.cell? ⟨b, o, none⟩ := fun b o h => bcell hb2 b o (by have := hsz1'.out; omega)
  have hsz2' := Lib.hid (show w.heap.size + 1 ≤ w2.heap.size by have := hb2.size; have := hsz1'.out; omega)
  have hb2' := Lib.hid (bthen hb1'.out hb2); clear hb2
  go_wp2
  go_ret
  exact ⟨rfl, hb2'.out⟩

set_option maxRecDepth 100000 in
set_option maxHeartbeats 2000000 in
theorem ins_takes28 (m : Mach Sl) (w : World) (hm : kMach.rd w m) (hn : m.args.l.length * 8 ≤ 140737488355328) (e0 : ¬ m.op < 1) (e1 : ¬ 29 < m.op) (e2 : (m.op == 2) = false) (e3 : (m.op == 28) = true) (e4 : ¬ (4 : Int) < (m.args.l.length : Int)) (hmk : (makes m.p).any badReg = false) (htk : (takes m.p).any badReg = true) :
    Calls Try.prog 73 #[m.v] w fun e w' => e = .returned (.int .i64 31) ∧ Below w.heap.size w w' := by
  have hm' := Lib.hid hm
  have hn' := Lib.hid hn
  have hn2 : m.args.l.length * 8 ≤ 140737488355328 := hn
  clear hm hn
  have hmk' := Lib.hid hmk
  have htk' := Lib.hid htk
  clear hmk htk
  go_enter Try.func73, Try.ntmps73
  go_wp2_with fail
  refine (machMakes m _).mono ?_
  rintro e w1 ⟨t1, rfl, hl1, ho1, hb1⟩
  have hl1' := Lib.hid hl1; have ho1' := Lib.hid ho1; have hb1' := Lib.hid (bthen (bal (Below.refl _ w) _) hb1); have hc1 := bcell hb1; have hsz1' := Lib.hid (show w.heap.size + 1 ≤ w1.heap.size by have := hb1.size; simp at this; omega); clear hl1 ho1 hb1
  go_wp2_with fail
  refine (machRegs t1 _ ho1'.out.rd).mono ?_
  rintro e w2 ⟨rfl, hb2⟩
  rw [hl1'.out, hmk'.out]
  have hc2 : ∀ b o, b < w.heap.size + 1 → w2.cell? ⟨b, o, none⟩ = w1.cell? ⟨b, o, none⟩ := fun b o h => bcell hb2 b o (by have := hsz1'.out; omega)
  have hsz2' := Lib.hid (show w.heap.size + 1 ≤ w2.heap.size by have := hb2.size; have := hsz1'.out; omega)
  have hb2' := Lib.hid (bthen hb1'.out hb2); clear hb2
  go_wp2_with fail
  refine (machTakes m _ (kI.sl.below hm'.out hb2'.out) hn'.out).mono ?_
  rintro e w3 ⟨t2, rfl, hl2, ho2, hb3⟩
  have hc3 : ∀ b o, b < w.heap.size + 1 → w3.cell? ⟨b, o, none⟩ = w2.cell? ⟨b, o, none⟩ := fun b o h => bcell hb3 b o (by have := hsz2'.out; omega)
  have hl2' := Lib.hid hl2; have ho2' := Lib.hid ho2; have hsz3' := Lib.hid (show w.heap.size + 1 ≤ w3.heap.size by have := hb3.size; have := hsz2'.out; omega); have hb3' := Lib.hid (bthen hb2'.out hb3); clear hl2 ho2 hb3
  go_wp2_with fail
  refine (machRegs t2 _ ho2'.out.rd).mono ?_
  rintro e w4 ⟨rfl, hb4⟩
  rw [hl2'.out, htk'.out]
  have hc4 : ∀ b o, b < w.heap.size + 1 → w4.cell? ⟨b, o, none⟩ = w3.cell? ⟨b, o, none⟩ := fun b o h => bcell hb4 b o (by have := hsz3'.out; omega)
  have hb4' := Lib.hid (bthen hb3'.out hb4); clear hb4
  go_wp2
  go_ret
  exact ⟨rfl, hb4'.out⟩

set_option maxRecDepth 100000 in
set_option maxHeartbeats 2000000 in
theorem ins_imm28_0 (m : Mach Sl) (w : World) (hm : kMach.rd w m) (hn : m.args.l.length * 8 ≤ 140737488355328) (e0 : ¬ m.op < 1) (e1 : ¬ 29 < m.op) (e2 : (m.op == 2) = false) (e3 : (m.op == 28) = true) (e4 : ¬ (4 : Int) < (m.args.l.length : Int)) (e5 : (m.op == 29) = false) (hmk : (makes m.p).any badReg = false) (htk : (takes m.p).any badReg = false) (him : immOk m.op m.imm = true) :
    Calls Try.prog 73 #[m.v] w fun e w' => e = .returned (.int .i64 0) ∧ Below w.heap.size w w' := by
  have hm' := Lib.hid hm
  have hn' := Lib.hid hn
  have hn2 : m.args.l.length * 8 ≤ 140737488355328 := hn
  clear hm hn
  have hmk' := Lib.hid hmk
  have htk' := Lib.hid htk
  have him' := Lib.hid him
  clear hmk htk him
  go_enter Try.func73, Try.ntmps73
  go_wp2_with fail
  refine (machMakes m _).mono ?_
  rintro e w1 ⟨t1, rfl, hl1, ho1, hb1⟩
  have hl1' := Lib.hid hl1; have ho1' := Lib.hid ho1; have hb1' := Lib.hid (bthen (bal (Below.refl _ w) _) hb1); have hc1 := bcell hb1; have hsz1' := Lib.hid (show w.heap.size + 1 ≤ w1.heap.size by have := hb1.size; simp at this; omega); clear hl1 ho1 hb1
  go_wp2_with fail
  refine (machRegs t1 _ ho1'.out.rd).mono ?_
  rintro e w2 ⟨rfl, hb2⟩
  rw [hl1'.out, hmk'.out]
  have hc2 : ∀ b o, b < w.heap.size + 1 → w2.cell? ⟨b, o, none⟩ = w1.cell? ⟨b, o, none⟩ := fun b o h => bcell hb2 b o (by have := hsz1'.out; omega)
  have hsz2' := Lib.hid (show w.heap.size + 1 ≤ w2.heap.size by have := hb2.size; have := hsz1'.out; omega)
  have hb2' := Lib.hid (bthen hb1'.out hb2); clear hb2
  go_wp2_with fail
  refine (machTakes m _ (kI.sl.below hm'.out hb2'.out) hn'.out).mono ?_
  rintro e w3 ⟨t2, rfl, hl2, ho2, hb3⟩
  have hc3 : ∀ b o, b < w.heap.size + 1 → w3.cell? ⟨b, o, none⟩ = w2.cell? ⟨b, o, none⟩ := fun b o h => bcell hb3 b o (by have := hsz2'.out; omega)
  have hl2' := Lib.hid hl2; have ho2' := Lib.hid ho2; have hsz3' := Lib.hid (show w.heap.size + 1 ≤ w3.heap.size by have := hb3.size; have := hsz2'.out; omega); have hb3' := Lib.hid (bthen hb2'.out hb3); clear hl2 ho2 hb3
  go_wp2_with fail
  refine (machRegs t2 _ ho2'.out.rd).mono ?_
  rintro e w4 ⟨rfl, hb4⟩
  rw [hl2'.out, htk'.out]
  have hc4 : ∀ b o, b < w.heap.size + 1 → w4.cell? ⟨b, o, none⟩ = w3.cell? ⟨b, o, none⟩ := fun b o h => bcell hb4 b o (by have := hsz3'.out; omega)
  have hb4' := Lib.hid (bthen hb3'.out hb4); clear hb4
  go_wp2_with fail
  refine (machImm m _).mono ?_
  rintro e w5 ⟨rfl, hb5⟩
  rw [him'.out]
  have hb5' := Lib.hid (bthen hb4'.out hb5); clear hb5
  go_wp2
  go_ret
  exact ⟨rfl, hb5'.out⟩

set_option maxRecDepth 100000 in
set_option maxHeartbeats 2000000 in
theorem ins_imm28_32 (m : Mach Sl) (w : World) (hm : kMach.rd w m) (hn : m.args.l.length * 8 ≤ 140737488355328) (e0 : ¬ m.op < 1) (e1 : ¬ 29 < m.op) (e2 : (m.op == 2) = false) (e3 : (m.op == 28) = true) (e4 : ¬ (4 : Int) < (m.args.l.length : Int)) (e5 : (m.op == 29) = false) (hmk : (makes m.p).any badReg = false) (htk : (takes m.p).any badReg = false) (him : immOk m.op m.imm = false) :
    Calls Try.prog 73 #[m.v] w fun e w' => e = .returned (.int .i64 32) ∧ Below w.heap.size w w' := by
  have hm' := Lib.hid hm
  have hn' := Lib.hid hn
  have hn2 : m.args.l.length * 8 ≤ 140737488355328 := hn
  clear hm hn
  have hmk' := Lib.hid hmk
  have htk' := Lib.hid htk
  have him' := Lib.hid him
  clear hmk htk him
  go_enter Try.func73, Try.ntmps73
  go_wp2_with fail
  refine (machMakes m _).mono ?_
  rintro e w1 ⟨t1, rfl, hl1, ho1, hb1⟩
  have hl1' := Lib.hid hl1; have ho1' := Lib.hid ho1; have hb1' := Lib.hid (bthen (bal (Below.refl _ w) _) hb1); have hc1 := bcell hb1; have hsz1' := Lib.hid (show w.heap.size + 1 ≤ w1.heap.size by have := hb1.size; simp at this; omega); clear hl1 ho1 hb1
  go_wp2_with fail
  refine (machRegs t1 _ ho1'.out.rd).mono ?_
  rintro e w2 ⟨rfl, hb2⟩
  rw [hl1'.out, hmk'.out]
  have hc2 : ∀ b o, b < w.heap.size + 1 → w2.cell? ⟨b, o, none⟩ = w1.cell? ⟨b, o, none⟩ := fun b o h => bcell hb2 b o (by have := hsz1'.out; omega)
  have hsz2' := Lib.hid (show w.heap.size + 1 ≤ w2.heap.size by have := hb2.size; have := hsz1'.out; omega)
  have hb2' := Lib.hid (bthen hb1'.out hb2); clear hb2
  go_wp2_with fail
  refine (machTakes m _ (kI.sl.below hm'.out hb2'.out) hn'.out).mono ?_
  rintro e w3 ⟨t2, rfl, hl2, ho2, hb3⟩
  have hc3 : ∀ b o, b < w.heap.size + 1 → w3.cell? ⟨b, o, none⟩ = w2.cell? ⟨b, o, none⟩ := fun b o h => bcell hb3 b o (by have := hsz2'.out; omega)
  have hl2' := Lib.hid hl2; have ho2' := Lib.hid ho2; have hsz3' := Lib.hid (show w.heap.size + 1 ≤ w3.heap.size by have := hb3.size; have := hsz2'.out; omega); have hb3' := Lib.hid (bthen hb2'.out hb3); clear hl2 ho2 hb3
  go_wp2_with fail
  refine (machRegs t2 _ ho2'.out.rd).mono ?_
  rintro e w4 ⟨rfl, hb4⟩
  rw [hl2'.out, htk'.out]
  have hc4 : ∀ b o, b < w.heap.size + 1 → w4.cell? ⟨b, o, none⟩ = w3.cell? ⟨b, o, none⟩ := fun b o h => bcell hb4 b o (by have := hsz3'.out; omega)
  have hb4' := Lib.hid (bthen hb3'.out hb4); clear hb4
  go_wp2_with fail
  refine (machImm m _).mono ?_
  rintro e w5 ⟨rfl, hb5⟩
  rw [him'.out]
  have hb5' := Lib.hid (bthen hb4'.out hb5); clear hb5
  go_wp2
  go_ret
  exact ⟨rfl, hb5'.out⟩

set_option maxRecDepth 100000 in
set_option maxHeartbeats 2000000 in
theorem ins_makes (m : Mach Sl) (w : World) (hm : kMach.rd w m) (hn : m.args.l.length * 8 ≤ 140737488355328) (e0 : ¬ m.op < 1) (e1 : ¬ 29 < m.op) (e2 : (m.op == 2) = false) (e3 : (m.op == 28) = false) (hmk : (makes m.p).any badReg = true) :
    Calls Try.prog 73 #[m.v] w fun e w' => e = .returned (.int .i64 31) ∧ Below w.heap.size w w' := by
  have hm' := Lib.hid hm
  have hn' := Lib.hid hn
  have hn2 : m.args.l.length * 8 ≤ 140737488355328 := hn
  clear hm hn
  have hmk' := Lib.hid hmk
  clear hmk
  go_enter Try.func73, Try.ntmps73
  go_wp2_with fail
  refine (machMakes m _).mono ?_
  rintro e w1 ⟨t1, rfl, hl1, ho1, hb1⟩
  have hl1' := Lib.hid hl1; have ho1' := Lib.hid ho1; have hb1' := Lib.hid (bthen (bal (Below.refl _ w) _) hb1); have hc1 := bcell hb1; have hsz1' := Lib.hid (show w.heap.size + 1 ≤ w1.heap.size by have := hb1.size; simp at this; omega); clear hl1 ho1 hb1
  go_wp2_with fail
  refine (machRegs t1 _ ho1'.out.rd).mono ?_
  rintro e w2 ⟨rfl, hb2⟩
  rw [hl1'.out, hmk'.out]
  have hc2 : ∀ b o, b < w.heap.size + 1 → w2.cell? ⟨b, o, none⟩ = w1.cell? ⟨b, o, none⟩ := fun b o h => bcell hb2 b o (by have := hsz1'.out; omega)
  have hsz2' := Lib.hid (show w.heap.size + 1 ≤ w2.heap.size by have := hb2.size; have := hsz1'.out; omega)
  have hb2' := Lib.hid (bthen hb1'.out hb2); clear hb2
  go_wp2
  go_ret
  exact ⟨rfl, hb2'.out⟩

set_option maxRecDepth 100000 in
set_option maxHeartbeats 2000000 in
theorem ins_takes (m : Mach Sl) (w : World) (hm : kMach.rd w m) (hn : m.args.l.length * 8 ≤ 140737488355328) (e0 : ¬ m.op < 1) (e1 : ¬ 29 < m.op) (e2 : (m.op == 2) = false) (e3 : (m.op == 28) = false) (hmk : (makes m.p).any badReg = false) (htk : (takes m.p).any badReg = true) :
    Calls Try.prog 73 #[m.v] w fun e w' => e = .returned (.int .i64 31) ∧ Below w.heap.size w w' := by
  have hm' := Lib.hid hm
  have hn' := Lib.hid hn
  have hn2 : m.args.l.length * 8 ≤ 140737488355328 := hn
  clear hm hn
  have hmk' := Lib.hid hmk
  have htk' := Lib.hid htk
  clear hmk htk
  go_enter Try.func73, Try.ntmps73
  go_wp2_with fail
  refine (machMakes m _).mono ?_
  rintro e w1 ⟨t1, rfl, hl1, ho1, hb1⟩
  have hl1' := Lib.hid hl1; have ho1' := Lib.hid ho1; have hb1' := Lib.hid (bthen (bal (Below.refl _ w) _) hb1); have hc1 := bcell hb1; have hsz1' := Lib.hid (show w.heap.size + 1 ≤ w1.heap.size by have := hb1.size; simp at this; omega); clear hl1 ho1 hb1
  go_wp2_with fail
  refine (machRegs t1 _ ho1'.out.rd).mono ?_
  rintro e w2 ⟨rfl, hb2⟩
  rw [hl1'.out, hmk'.out]
  have hc2 : ∀ b o, b < w.heap.size + 1 → w2.cell? ⟨b, o, none⟩ = w1.cell? ⟨b, o, none⟩ := fun b o h => bcell hb2 b o (by have := hsz1'.out; omega)
  have hsz2' := Lib.hid (show w.heap.size + 1 ≤ w2.heap.size by have := hb2.size; have := hsz1'.out; omega)
  have hb2' := Lib.hid (bthen hb1'.out hb2); clear hb2
  go_wp2_with fail
  refine (machTakes m _ (kI.sl.below hm'.out hb2'.out) hn'.out).mono ?_
  rintro e w3 ⟨t2, rfl, hl2, ho2, hb3⟩
  have hc3 : ∀ b o, b < w.heap.size + 1 → w3.cell? ⟨b, o, none⟩ = w2.cell? ⟨b, o, none⟩ := fun b o h => bcell hb3 b o (by have := hsz2'.out; omega)
  have hl2' := Lib.hid hl2; have ho2' := Lib.hid ho2; have hsz3' := Lib.hid (show w.heap.size + 1 ≤ w3.heap.size by have := hb3.size; have := hsz2'.out; omega); have hb3' := Lib.hid (bthen hb2'.out hb3); clear hl2 ho2 hb3
  go_wp2_with fail
  refine (machRegs t2 _ ho2'.out.rd).mono ?_
  rintro e w4 ⟨rfl, hb4⟩
  rw [hl2'.out, htk'.out]
  have hc4 : ∀ b o, b < w.heap.size + 1 → w4.cell? ⟨b, o, none⟩ = w3.cell? ⟨b, o, none⟩ := fun b o h => bcell hb4 b o (by have := hsz3'.out; omega)
  have hb4' := Lib.hid (bthen hb3'.out hb4); clear hb4
  go_wp2
  go_ret
  exact ⟨rfl, hb4'.out⟩

set_option maxRecDepth 100000 in
set_option maxHeartbeats 2000000 in
theorem ins_imm_0 (m : Mach Sl) (w : World) (hm : kMach.rd w m) (hn : m.args.l.length * 8 ≤ 140737488355328) (e0 : ¬ m.op < 1) (e1 : ¬ 29 < m.op) (e2 : (m.op == 2) = false) (e3 : (m.op == 28) = false) (e5 : (m.op == 29) = false) (hmk : (makes m.p).any badReg = false) (htk : (takes m.p).any badReg = false) (him : immOk m.op m.imm = true) :
    Calls Try.prog 73 #[m.v] w fun e w' => e = .returned (.int .i64 0) ∧ Below w.heap.size w w' := by
  have hm' := Lib.hid hm
  have hn' := Lib.hid hn
  have hn2 : m.args.l.length * 8 ≤ 140737488355328 := hn
  clear hm hn
  have hmk' := Lib.hid hmk
  have htk' := Lib.hid htk
  have him' := Lib.hid him
  clear hmk htk him
  go_enter Try.func73, Try.ntmps73
  go_wp2_with fail
  refine (machMakes m _).mono ?_
  rintro e w1 ⟨t1, rfl, hl1, ho1, hb1⟩
  have hl1' := Lib.hid hl1; have ho1' := Lib.hid ho1; have hb1' := Lib.hid (bthen (bal (Below.refl _ w) _) hb1); have hc1 := bcell hb1; have hsz1' := Lib.hid (show w.heap.size + 1 ≤ w1.heap.size by have := hb1.size; simp at this; omega); clear hl1 ho1 hb1
  go_wp2_with fail
  refine (machRegs t1 _ ho1'.out.rd).mono ?_
  rintro e w2 ⟨rfl, hb2⟩
  rw [hl1'.out, hmk'.out]
  have hc2 : ∀ b o, b < w.heap.size + 1 → w2.cell? ⟨b, o, none⟩ = w1.cell? ⟨b, o, none⟩ := fun b o h => bcell hb2 b o (by have := hsz1'.out; omega)
  have hsz2' := Lib.hid (show w.heap.size + 1 ≤ w2.heap.size by have := hb2.size; have := hsz1'.out; omega)
  have hb2' := Lib.hid (bthen hb1'.out hb2); clear hb2
  go_wp2_with fail
  refine (machTakes m _ (kI.sl.below hm'.out hb2'.out) hn'.out).mono ?_
  rintro e w3 ⟨t2, rfl, hl2, ho2, hb3⟩
  have hc3 : ∀ b o, b < w.heap.size + 1 → w3.cell? ⟨b, o, none⟩ = w2.cell? ⟨b, o, none⟩ := fun b o h => bcell hb3 b o (by have := hsz2'.out; omega)
  have hl2' := Lib.hid hl2; have ho2' := Lib.hid ho2; have hsz3' := Lib.hid (show w.heap.size + 1 ≤ w3.heap.size by have := hb3.size; have := hsz2'.out; omega); have hb3' := Lib.hid (bthen hb2'.out hb3); clear hl2 ho2 hb3
  go_wp2_with fail
  refine (machRegs t2 _ ho2'.out.rd).mono ?_
  rintro e w4 ⟨rfl, hb4⟩
  rw [hl2'.out, htk'.out]
  have hc4 : ∀ b o, b < w.heap.size + 1 → w4.cell? ⟨b, o, none⟩ = w3.cell? ⟨b, o, none⟩ := fun b o h => bcell hb4 b o (by have := hsz3'.out; omega)
  have hb4' := Lib.hid (bthen hb3'.out hb4); clear hb4
  go_wp2_with fail
  refine (machImm m _).mono ?_
  rintro e w5 ⟨rfl, hb5⟩
  rw [him'.out]
  have hb5' := Lib.hid (bthen hb4'.out hb5); clear hb5
  go_wp2
  go_ret
  exact ⟨rfl, hb5'.out⟩

set_option maxRecDepth 100000 in
set_option maxHeartbeats 2000000 in
theorem ins_imm_32 (m : Mach Sl) (w : World) (hm : kMach.rd w m) (hn : m.args.l.length * 8 ≤ 140737488355328) (e0 : ¬ m.op < 1) (e1 : ¬ 29 < m.op) (e2 : (m.op == 2) = false) (e3 : (m.op == 28) = false) (e5 : (m.op == 29) = false) (hmk : (makes m.p).any badReg = false) (htk : (takes m.p).any badReg = false) (him : immOk m.op m.imm = false) :
    Calls Try.prog 73 #[m.v] w fun e w' => e = .returned (.int .i64 32) ∧ Below w.heap.size w w' := by
  have hm' := Lib.hid hm
  have hn' := Lib.hid hn
  have hn2 : m.args.l.length * 8 ≤ 140737488355328 := hn
  clear hm hn
  have hmk' := Lib.hid hmk
  have htk' := Lib.hid htk
  have him' := Lib.hid him
  clear hmk htk him
  go_enter Try.func73, Try.ntmps73
  go_wp2_with fail
  refine (machMakes m _).mono ?_
  rintro e w1 ⟨t1, rfl, hl1, ho1, hb1⟩
  have hl1' := Lib.hid hl1; have ho1' := Lib.hid ho1; have hb1' := Lib.hid (bthen (bal (Below.refl _ w) _) hb1); have hc1 := bcell hb1; have hsz1' := Lib.hid (show w.heap.size + 1 ≤ w1.heap.size by have := hb1.size; simp at this; omega); clear hl1 ho1 hb1
  go_wp2_with fail
  refine (machRegs t1 _ ho1'.out.rd).mono ?_
  rintro e w2 ⟨rfl, hb2⟩
  rw [hl1'.out, hmk'.out]
  have hc2 : ∀ b o, b < w.heap.size + 1 → w2.cell? ⟨b, o, none⟩ = w1.cell? ⟨b, o, none⟩ := fun b o h => bcell hb2 b o (by have := hsz1'.out; omega)
  have hsz2' := Lib.hid (show w.heap.size + 1 ≤ w2.heap.size by have := hb2.size; have := hsz1'.out; omega)
  have hb2' := Lib.hid (bthen hb1'.out hb2); clear hb2
  go_wp2_with fail
  refine (machTakes m _ (kI.sl.below hm'.out hb2'.out) hn'.out).mono ?_
  rintro e w3 ⟨t2, rfl, hl2, ho2, hb3⟩
  have hc3 : ∀ b o, b < w.heap.size + 1 → w3.cell? ⟨b, o, none⟩ = w2.cell? ⟨b, o, none⟩ := fun b o h => bcell hb3 b o (by have := hsz2'.out; omega)
  have hl2' := Lib.hid hl2; have ho2' := Lib.hid ho2; have hsz3' := Lib.hid (show w.heap.size + 1 ≤ w3.heap.size by have := hb3.size; have := hsz2'.out; omega); have hb3' := Lib.hid (bthen hb2'.out hb3); clear hl2 ho2 hb3
  go_wp2_with fail
  refine (machRegs t2 _ ho2'.out.rd).mono ?_
  rintro e w4 ⟨rfl, hb4⟩
  rw [hl2'.out, htk'.out]
  have hc4 : ∀ b o, b < w.heap.size + 1 → w4.cell? ⟨b, o, none⟩ = w3.cell? ⟨b, o, none⟩ := fun b o h => bcell hb4 b o (by have := hsz3'.out; omega)
  have hb4' := Lib.hid (bthen hb3'.out hb4); clear hb4
  go_wp2_with fail
  refine (machImm m _).mono ?_
  rintro e w5 ⟨rfl, hb5⟩
  rw [him'.out]
  have hb5' := Lib.hid (bthen hb4'.out hb5); clear hb5
  go_wp2
  go_ret
  exact ⟨rfl, hb5'.out⟩

set_option maxRecDepth 100000 in
set_option maxHeartbeats 2000000 in
theorem ins_twice (m : Mach Sl) (w : World) (hm : kMach.rd w m) (hn : m.args.l.length * 8 ≤ 140737488355328) (e0 : ¬ m.op < 1) (e1 : ¬ 29 < m.op) (e2 : (m.op == 2) = false) (e3 : (m.op == 28) = false) (e5 : (m.op == 29) = true) (e6 : (m.d == m.e) = true) (hmk : (makes m.p).any badReg = false) (htk : (takes m.p).any badReg = false) :
    Calls Try.prog 73 #[m.v] w fun e w' => e = .returned (.int .i64 12) ∧ Below w.heap.size w w' := by
  have hm' := Lib.hid hm
  have hn' := Lib.hid hn
  have hn2 : m.args.l.length * 8 ≤ 140737488355328 := hn
  clear hm hn
  have hmk' := Lib.hid hmk
  have htk' := Lib.hid htk
  clear hmk htk
  go_enter Try.func73, Try.ntmps73
  go_wp2_with fail
  refine (machMakes m _).mono ?_
  rintro e w1 ⟨t1, rfl, hl1, ho1, hb1⟩
  have hl1' := Lib.hid hl1; have ho1' := Lib.hid ho1; have hb1' := Lib.hid (bthen (bal (Below.refl _ w) _) hb1); have hc1 := bcell hb1; have hsz1' := Lib.hid (show w.heap.size + 1 ≤ w1.heap.size by have := hb1.size; simp at this; omega); clear hl1 ho1 hb1
  go_wp2_with fail
  refine (machRegs t1 _ ho1'.out.rd).mono ?_
  rintro e w2 ⟨rfl, hb2⟩
  rw [hl1'.out, hmk'.out]
  have hc2 : ∀ b o, b < w.heap.size + 1 → w2.cell? ⟨b, o, none⟩ = w1.cell? ⟨b, o, none⟩ := fun b o h => bcell hb2 b o (by have := hsz1'.out; omega)
  have hsz2' := Lib.hid (show w.heap.size + 1 ≤ w2.heap.size by have := hb2.size; have := hsz1'.out; omega)
  have hb2' := Lib.hid (bthen hb1'.out hb2); clear hb2
  go_wp2_with fail
  refine (machTakes m _ (kI.sl.below hm'.out hb2'.out) hn'.out).mono ?_
  rintro e w3 ⟨t2, rfl, hl2, ho2, hb3⟩
  have hc3 : ∀ b o, b < w.heap.size + 1 → w3.cell? ⟨b, o, none⟩ = w2.cell? ⟨b, o, none⟩ := fun b o h => bcell hb3 b o (by have := hsz2'.out; omega)
  have hl2' := Lib.hid hl2; have ho2' := Lib.hid ho2; have hsz3' := Lib.hid (show w.heap.size + 1 ≤ w3.heap.size by have := hb3.size; have := hsz2'.out; omega); have hb3' := Lib.hid (bthen hb2'.out hb3); clear hl2 ho2 hb3
  go_wp2_with fail
  refine (machRegs t2 _ ho2'.out.rd).mono ?_
  rintro e w4 ⟨rfl, hb4⟩
  rw [hl2'.out, htk'.out]
  have hc4 : ∀ b o, b < w.heap.size + 1 → w4.cell? ⟨b, o, none⟩ = w3.cell? ⟨b, o, none⟩ := fun b o h => bcell hb4 b o (by have := hsz3'.out; omega)
  have hb4' := Lib.hid (bthen hb3'.out hb4); clear hb4
  go_wp2
  go_ret
  exact ⟨rfl, hb4'.out⟩

set_option maxRecDepth 100000 in
set_option maxHeartbeats 2000000 in
theorem ins_once (m : Mach Sl) (w : World) (hm : kMach.rd w m) (hn : m.args.l.length * 8 ≤ 140737488355328) (e0 : ¬ m.op < 1) (e1 : ¬ 29 < m.op) (e2 : (m.op == 2) = false) (e3 : (m.op == 28) = false) (e5 : (m.op == 29) = true) (e6 : (m.d == m.e) = false) (hmk : (makes m.p).any badReg = false) (htk : (takes m.p).any badReg = false) (him : immOk m.op m.imm = true) :
    Calls Try.prog 73 #[m.v] w fun e w' => e = .returned (.int .i64 0) ∧ Below w.heap.size w w' := by
  have hm' := Lib.hid hm
  have hn' := Lib.hid hn
  have hn2 : m.args.l.length * 8 ≤ 140737488355328 := hn
  clear hm hn
  have hmk' := Lib.hid hmk
  have htk' := Lib.hid htk
  have him' := Lib.hid him
  clear hmk htk him
  go_enter Try.func73, Try.ntmps73
  go_wp2_with fail
  refine (machMakes m _).mono ?_
  rintro e w1 ⟨t1, rfl, hl1, ho1, hb1⟩
  have hl1' := Lib.hid hl1; have ho1' := Lib.hid ho1; have hb1' := Lib.hid (bthen (bal (Below.refl _ w) _) hb1); have hc1 := bcell hb1; have hsz1' := Lib.hid (show w.heap.size + 1 ≤ w1.heap.size by have := hb1.size; simp at this; omega); clear hl1 ho1 hb1
  go_wp2_with fail
  refine (machRegs t1 _ ho1'.out.rd).mono ?_
  rintro e w2 ⟨rfl, hb2⟩
  rw [hl1'.out, hmk'.out]
  have hc2 : ∀ b o, b < w.heap.size + 1 → w2.cell? ⟨b, o, none⟩ = w1.cell? ⟨b, o, none⟩ := fun b o h => bcell hb2 b o (by have := hsz1'.out; omega)
  have hsz2' := Lib.hid (show w.heap.size + 1 ≤ w2.heap.size by have := hb2.size; have := hsz1'.out; omega)
  have hb2' := Lib.hid (bthen hb1'.out hb2); clear hb2
  go_wp2_with fail
  refine (machTakes m _ (kI.sl.below hm'.out hb2'.out) hn'.out).mono ?_
  rintro e w3 ⟨t2, rfl, hl2, ho2, hb3⟩
  have hc3 : ∀ b o, b < w.heap.size + 1 → w3.cell? ⟨b, o, none⟩ = w2.cell? ⟨b, o, none⟩ := fun b o h => bcell hb3 b o (by have := hsz2'.out; omega)
  have hl2' := Lib.hid hl2; have ho2' := Lib.hid ho2; have hsz3' := Lib.hid (show w.heap.size + 1 ≤ w3.heap.size by have := hb3.size; have := hsz2'.out; omega); have hb3' := Lib.hid (bthen hb2'.out hb3); clear hl2 ho2 hb3
  go_wp2_with fail
  refine (machRegs t2 _ ho2'.out.rd).mono ?_
  rintro e w4 ⟨rfl, hb4⟩
  rw [hl2'.out, htk'.out]
  have hc4 : ∀ b o, b < w.heap.size + 1 → w4.cell? ⟨b, o, none⟩ = w3.cell? ⟨b, o, none⟩ := fun b o h => bcell hb4 b o (by have := hsz3'.out; omega)
  have hb4' := Lib.hid (bthen hb3'.out hb4); clear hb4
  go_wp2_with fail
  refine (machImm m _).mono ?_
  rintro e w5 ⟨rfl, hb5⟩
  rw [him'.out]
  have hb5' := Lib.hid (bthen hb4'.out hb5); clear hb5
  go_wp2
  go_ret
  exact ⟨rfl, hb5'.out⟩
end Go.Proofs.Ytjlehpgfhlkjlaa
