/-
  mach.Goes, interp.Memory.
-/
import Derived.Test.YtjlehpgfhlkjlaaGet
set_option linter.all false
namespace Jq
/-- Where an end goes. -/
def goesOf (e : End List) (regs : List Int) : Int :=
  if e.op = 1 then 0 else
  if e.op = 2 then (if mget regs e.a ≠ 0 then 0 else 1) else
  if e.op = 3 then (if mget regs e.a = mget regs e.b then 0 else 1) else
  if e.op = 4 then (if mget regs e.a < mget regs e.b then 0 else 1) else
  if e.op = 5 then (if mget regs e.a % 4294967296 < mget regs e.b % 4294967296 then 0 else 1) else
  if e.op = 6 then (if mget regs e.a % 4294967296 < (e.to.length : Int) - 1 then mget regs e.a % 4294967296 else (e.to.length : Int) - 1) else -1
end Jq
namespace Go.Proofs.Ytjlehpgfhlkjlaa
open Go.RowKit Jq Go.Deep
set_option linter.unusedVariables false
set_option maxRecDepth 1000000 in
set_option maxHeartbeats 8000000 in
/-- 'mach.Goes'. -/
theorem machGoes (x : Jq.End Sl) (R : Sl Int) (w : World) (hx : kEnd.rd w x) (hR : kW.sl.rd w R) :
    Calls Try.prog 46 #[x.v, R.val] w fun e w' => e = .returned (.int .i64 (goesOf x.p R.l)) ∧ Below w.heap.size w w' := by
  have hbd := Kd.bound hx
  have hR' := Lib.hid hR
  clear hR hx
  have hge := Lib.hid (show goesOf x.p R.l = if x.op = 1 then 0 else
  if x.op = 2 then (if mget R.l x.a ≠ 0 then 0 else 1) else
  if x.op = 3 then (if mget R.l x.a = mget R.l x.b then 0 else 1) else
  if x.op = 4 then (if mget R.l x.a < mget R.l x.b then 0 else 1) else
  if x.op = 5 then (if mget R.l x.a % 4294967296 < mget R.l x.b % 4294967296 then 0 else 1) else
  if x.op = 6 then (if mget R.l x.a % 4294967296 < (x.to.l.length : Int) - 1 then mget R.l x.a % 4294967296 else (x.to.l.length : Int) - 1) else -1 from rfl)
  go_enter Try.func46, Try.ntmps46
  go_wp2_with fail
  obtain ⟨W0, hW0⟩ : ∃ W0, W0 = w.alloc (.cells #[.int .i64 x.op, .int .i64 x.a, .int .i64 x.b, x.to.val, .int .i32 x.imm] 59) := ⟨_, rfl⟩
  have hB0 := Lib.hid (show Below w.heap.size w W0 by subst hW0; exact bal (Below.refl _ _) _)
  have hbx : W0.heap[w.heap.size]? = some (.cells #[.int .i64 x.op, .int .i64 x.a, .int .i64 x.b, x.to.val, .int .i32 x.imm] 59 (0, 0)) := by subst hW0; exact heap_alloc_new w _
  have c0 : W0.cell? ⟨w.heap.size, 0, none⟩ = some (.int .i64 x.op) := by simp [World.cell?, hbx]
  have c1 : W0.cell? ⟨w.heap.size, 1, none⟩ = some (.int .i64 x.a) := by simp [World.cell?, hbx]
  have c2 : W0.cell? ⟨w.heap.size, 2, none⟩ = some (.int .i64 x.b) := by simp [World.cell?, hbx]
  have c3 : W0.cell? ⟨w.heap.size, 3, none⟩ = some x.to.val := by simp [World.cell?, hbx]
  go_must (rw [← hW0])
  clear hW0 hbx
  go_region_held3 (fun w' => w'.cell? ⟨w.heap.size, 1, none⟩ = some (.int .i64 x.a) ∧ w'.cell? ⟨w.heap.size, 2, none⟩ = some (.int .i64 x.b)) (first | go_keep | exact ⟨by assumption, by assumption⟩) (first | (go_at_call 45; refine (machGet R _ _ (kW.sl.below hR'.out (hB0.out.trans ((show Below W0.heap.size W0 _ from by repeat (first | exact Below.refl _ _ | refine Below.drew ?_)).mono hB0.out.size)))).mono ?_; rintro e w1 ⟨rfl, rfl⟩))
  obtain ⟨va, hva⟩ : ∃ va, mget R.l x.a = va := ⟨_, rfl⟩
  obtain ⟨vb, hvb⟩ : ∃ vb, mget R.l x.b = vb := ⟨_, rfl⟩
  rw [hva, hvb] at hge
  rw [hva, hvb]
  clear hva hvb
  have hop : x.op = 1 ∨ x.op = 2 ∨ x.op = 3 ∨ x.op = 4 ∨ x.op = 5 ∨ x.op = 6 ∨ (x.op < 1 ∨ 6 < x.op) := by omega
  have hB1 := Lib.hid (show Below w.heap.size w W0.drew from hB0.out.trans ((Below.refl _ _).drew.mono hB0.out.size))
  rcases hop with hop | hop | hop | hop | hop | hop | hop
  case inl =>
    rw [hop] at c0
    go_wp2_with fail
    go_ret
    rw [hge.out, if_pos hop]
    exact ⟨rfl, hB1.out⟩
  case inr.inl =>
    rw [hop] at c0
    by_cases h : va = 0
    · have d : (va == 0) = true := by simpa using h
      go_wp2_with fail
      go_ret
      rw [hge.out, if_neg (by omega), if_pos hop, if_neg (by simpa using h)]
      exact ⟨rfl, hB1.out⟩
    · have d : (va == 0) = false := by simpa using h
      go_wp2_with fail
      go_ret
      rw [hge.out, if_neg (by omega), if_pos hop, if_pos h]
      exact ⟨rfl, hB1.out⟩
  case inr.inr.inl =>
    rw [hop] at c0
    by_cases h : va = vb
    · have d : (va == vb) = true := by simpa using h
      go_wp2_with fail
      go_ret
      rw [hge.out, if_neg (by omega), if_neg (by omega), if_pos hop, if_pos h]
      exact ⟨rfl, hB1.out⟩
    · have d : (va == vb) = false := by simpa using h
      go_wp2_with fail
      go_ret
      rw [hge.out, if_neg (by omega), if_neg (by omega), if_pos hop, if_neg (by omega)]
      exact ⟨rfl, hB1.out⟩
  case inr.inr.inr.inl =>
    rw [hop] at c0
    by_cases h : va < vb
    · have d : decide (va < vb) = true := by simpa using h
      go_wp2_with fail
      go_ret
      rw [hge.out, if_neg (by omega), if_neg (by omega), if_neg (by omega), if_pos hop, if_pos h]
      exact ⟨rfl, hB1.out⟩
    · have d : decide (va < vb) = false := by simpa using h
      go_wp2_with fail
      go_ret
      rw [hge.out, if_neg (by omega), if_neg (by omega), if_neg (by omega), if_pos hop, if_neg (by omega)]
      exact ⟨rfl, hB1.out⟩
  case inr.inr.inr.inr.inl =>
    rw [hop] at c0
    by_cases h : va % 4294967296 < vb % 4294967296
    · have d : decide (va % 4294967296 < vb % 4294967296) = true := by simpa using h
      go_wp2_with fail
      go_ret
      rw [hge.out, if_neg (by omega), if_neg (by omega), if_neg (by omega), if_neg (by omega), if_pos hop, if_pos h]
      exact ⟨rfl, hB1.out⟩
    · have d : decide (va % 4294967296 < vb % 4294967296) = false := by simpa using h
      go_wp2_with fail
      go_ret
      rw [hge.out, if_neg (by omega), if_neg (by omega), if_neg (by omega), if_neg (by omega), if_pos hop, if_neg (by omega)]
      exact ⟨rfl, hB1.out⟩
  case inr.inr.inr.inr.inr.inl =>
    rw [hop] at c0
    by_cases h : va % 4294967296 < (x.to.l.length : Int) - 1
    · have d : decide (va % 4294967296 < (x.to.l.length : Int) - 1) = true := by simpa using h
      go_wp2_with fail
      go_ret
      rw [hge.out, if_neg (by omega), if_neg (by omega), if_neg (by omega), if_neg (by omega), if_neg (by omega), if_pos hop, if_pos h]
      exact ⟨rfl, hB1.out⟩
    · have d : decide (va % 4294967296 < (x.to.l.length : Int) - 1) = false := by simpa using h
      go_wp2_with fail
      go_ret
      rw [hge.out, if_neg (by omega), if_neg (by omega), if_neg (by omega), if_neg (by omega), if_neg (by omega), if_pos hop, if_neg (by omega)]
      exact ⟨rfl, hB1.out⟩
  case inr.inr.inr.inr.inr.inr =>
    have d1 : (x.op == 1) = false := by simp; omega
    have d2 : (x.op == 2) = false := by simp; omega
    have d3 : (x.op == 3) = false := by simp; omega
    have d4 : (x.op == 4) = false := by simp; omega
    have d5 : (x.op == 5) = false := by simp; omega
    have d6 : (x.op == 6) = false := by simp; omega
    go_wp2_with fail
    go_ret
    rw [hge.out, if_neg (by omega), if_neg (by omega), if_neg (by omega), if_neg (by omega), if_neg (by omega), if_neg (by omega)]
    exact ⟨rfl, hB1.out⟩

set_option maxRecDepth 1000000 in
set_option maxHeartbeats 800000 in
/-- 'interp.Memory'. -/
theorem interpMemory (x : Jq.Input Sl) (w : World) (hx : kInput.rd w x) :
    Calls Try.prog 42 #[x.v] w (RetSl kW 21 w (x.mem.l.take 4096)) := by
  have hm := Lib.hid hx.2.1
  have hbd := Kd.bound (d := kW) hx.2.1
  have htk := fun i h => run_take (P := Try.prog) 25 21 1 Try.underlying25 (by kernel_rfl) x.mem i h (Kd.cap_ (d := kW) hx.2.1)
  clear hx
  by_cases h : 4096 < x.mem.l.length
  · have h1 : ∀ W : World, (Instr.sliceAt 25 x.mem.val none (some (.int .i64 4096)) none).run Try.prog W = .ok (x.mem.tk 4096).val W := htk 4096 (by omega)
    clear htk
    have d1 : decide (4096 < x.mem.l.length) = true := by simpa using h
    have d2 : decide (x.mem.l.length < 4096) = false := by simp; omega
    have d3 : decide (x.mem.l.length ≤ 4096) = false := by simp; omega
    go_enter Try.func42, Try.ntmps42
    go_wp2_with fail
    refine (cloneW (x.mem.tk 4096) _ (kW.sl.below (tk_rd hm.out 4096) (bal (Below.refl _ _) _)) (by simp [Sl.tk]; omega)).mono ?_
    rintro e w1 ⟨t, rfl, hl, ho, hb⟩
    have hl' := Lib.hid hl
    have ho' := Lib.hid (ho.lower (base' := w.heap.size) (by simp))
    have hb' := Lib.hid (bthen (bal (Below.refl _ _) _) hb)
    clear hl ho hb
    go_wp2_with fail
    go_ret
    exact ⟨t, rfl, by rw [hl'.out]; rfl, ho'.out, hb'.out⟩
  · have h1 := htk x.mem.l.length (Nat.le_refl _)
    clear htk
    have hl0 : x.mem.l.length ≤ 4096 := by omega
    have d1 : decide (4096 < x.mem.l.length) = false := by simpa using hl0
    have d3 : decide (x.mem.l.length ≤ 4096) = true := by simpa using hl0
    have hm4 : (x.mem.tk x.mem.l.length).l.length * 4 ≤ 140737488355328 := by simp [Sl.tk]; omega
    go_enter Try.func42, Try.ntmps42
    go_wp2_with fail
    refine (cloneW (x.mem.tk x.mem.l.length) _ (kW.sl.below (tk_rd hm.out x.mem.l.length) (bal (Below.refl _ _) _)) hm4).mono ?_
    rintro e w1 ⟨t, rfl, hl, ho, hb⟩
    have hl' := Lib.hid hl
    have ho' := Lib.hid (ho.lower (base' := w.heap.size) (by simp))
    have hb' := Lib.hid (bthen (bal (Below.refl _ _) _) hb)
    clear hl ho hb
    go_wp2_with fail
    go_ret
    exact ⟨t, rfl, by rw [hl'.out]; simp [Sl.tk, List.take_of_length_le hl0], ho'.out, hb'.out⟩
end Go.Proofs.Ytjlehpgfhlkjlaa
