/-
  mach.Right, mach.get, mach.Do$1, interp.Load, interp.Store.
-/
import Derived.Test.YtjlehpgfhlkjlaaFunc
import Derived.Test.YtjlehpgfhlkjlaaPRun
import Derived.Test.YtjlehpgfhlkjlaaClone
set_option linter.all false
namespace Jq
open Go Go.RowKit
/-- An index by a word. -/
theorem run_index32 {α : Type} {P : Program} (T e : TypeId) (hT : P.underlying T = some (.slice e)) (s : Sl α) (b o sz : Nat) (hA : s.A = some ⟨b, o, none⟩) (hsz : (P.info? e).map (·.size) = some sz) (i : Int) (k : Nat) (hi : i = k) (hk : k < s.l.length) (W : World) :
    (Instr.indexAt T s.val (.int .i32 i)).run P W = .ok (.pointer (some ⟨b, o + k * sz, none⟩)) W := by
  subst hi
  obtain ⟨q, hq, hqs⟩ := Option.map_eq_some_iff.1 hsz
  have hso : (Go.sizeOf e).run P W = .ok sz W := by simp [Go.sizeOf, typeInfo, hq, hqs]
  simp [Instr.indexAt, asIntOf, run_underlying hT, hA, Result.andThen, Sl.val]
  rw [if_pos hk, hso]
  simp only [Result.andThen, Addr.add, Int.toNat_natCast]
  split
  · rename_i h; rw [h]; rfl
  · rfl
theorem getW32 {P : Program} (T e : TypeId) (hT : P.underlying T = some (.slice e)) {w : World} {s : Sl Int} (hsz : (P.info? e).map (·.size) = some 1) (h : kW.sl.rd w s) (i : Int) {k : Nat} (hk : k < s.l.length) (hi : i = k) :
    ∃ b o, (∀ W, (Instr.indexAt T s.val (.int .i32 i)).run P W = .ok (.pointer (some ⟨b, o + k, none⟩)) W) ∧ b < w.heap.size ∧ w.cell? ⟨b, o + k, none⟩ = some (.int .i32 s.l[k]) := by
  obtain ⟨b, o, hA, hb, hc, hr⟩ := Kd.at_ h hk
  refine ⟨b, o, fun W => by have := run_index32 T e hT s b o 1 hA hsz i k hi hk W; rwa [Nat.mul_one] at this, hb, ?_⟩
  have h2 := hc 0 (by decide)
  simpa [kW, Kd.scalar] using h2
theorem wrap32_64 (n : Int) : wrap64 (wrap32 n) = wrap32 n := by unfold wrap64 wrap32; omega
end Jq
namespace Go.Proofs.Ytjlehpgfhlkjlaa
open Go.RowKit Jq Go.Deep
set_option linter.unusedVariables false

set_option maxRecDepth 1000000 in
set_option maxHeartbeats 800000 in
/-- 'mach.Right'. -/
theorem machRight (m : MFunc Sl) (w : World) (hm : kMFunc.rd w m) (hb8 : ∀ b, b ∈ m.blocks.l → ∀ y, y ∈ b.ins.l → y.args.l.length * 8 ≤ 140737488355328) :
    Calls Try.prog 22 #[m.v] w fun e w' => e = .returned (.bool ((funcErr m.p).1 == 0)) ∧ Below w.heap.size w w' := by
  have hm' := Lib.hid hm
  have hb8' := Lib.hid hb8
  clear hm hb8
  go_enter Try.func22, Try.ntmps22
  go_wp2_with fail
  refine (machFunc m _ (kMFunc.below hm'.out (bal (Below.refl _ _) _)) hb8'.out).mono ?_
  rintro e w1 ⟨rfl, hb1⟩
  have hB := Lib.hid (bthen (bal (Below.refl _ _) _) hb1)
  clear hb1
  go_wp2_with fail
  go_ret
  exact ret_bool rfl hB.out

set_option maxRecDepth 1000000 in
set_option maxHeartbeats 800000 in
/-- 'mach.get'. -/
theorem machGet (s : Sl Int) (r : Int) (w : World) (hs : kW.sl.rd w s) :
    Calls Try.prog 45 #[s.val, .int .i64 r] w fun e w' => e = .returned (.int .i32 (mget s.l r)) ∧ w = w' := by
  have hbd := Kd.bound hs
  have hs' := Lib.hid hs
  clear hs
  by_cases h0 : r < 0
  · have e : mget s.l r = 0 := by rw [mget, if_pos (Or.inl h0)]
    rw [e]
    clear e
    have d0 : decide (r < 0) = true := by simpa using h0
    go_enter Try.func45, Try.ntmps45
    go_wp2_with fail
    go_ret
    exact ⟨rfl, rfl⟩
  · have d0 : decide (r < 0) = false := by simpa using h0
    by_cases h1 : (s.l.length : Int) ≤ r
    · have e : mget s.l r = 0 := by rw [mget, if_pos (Or.inr h1)]
      rw [e]
      clear e
      have d1 : decide ((s.l.length : Int) ≤ r) = true := by simpa using h1
      go_enter Try.func45, Try.ntmps45
      go_wp2_with fail
      go_ret
      exact ⟨rfl, rfl⟩
    · have d1 : decide ((s.l.length : Int) ≤ r) = false := by simpa using h1
      have hk : r.toNat < s.l.length := by omega
      have e : mget s.l r = s.l[r.toNat] := by rw [mget, if_neg (by omega)]; simp [List.getD_eq_getElem?_getD, hk]
      rw [e]
      clear e
      obtain ⟨b, o, hat, hb, hc⟩ := getW 25 21 Try.underlying25 (by kernel_rfl) hs'.out r hk (by omega)
      go_enter Try.func45, Try.ntmps45
      go_wp2_with fail
      go_ret
      exact ⟨rfl, rfl⟩

set_option maxRecDepth 1000000 in
set_option maxHeartbeats 800000 in
/-- 'interp.Load'. -/
theorem interpLoad (s : Sl Int) (r : Int) (w : World) (hs : kW.sl.rd w s) (hr : wrap64 r = r) :
    Calls Try.prog 40 #[s.val, .int .i32 r] w fun e w' => e = .returned (.tuple #[.int .i32 (ldV s.l r), .bool (ldOk s.l r)]) ∧ w = w' := by
  have hbd := Kd.bound hs
  have hs' := Lib.hid hs
  clear hs
  by_cases h0 : r < 0
  · have e : ldOk s.l r = false := by simp [ldOk, h0]
    have e2 : ldV s.l r = 0 := by rw [ldV, e]; rfl
    rw [e, e2]
    clear e e2
    have d0 : decide (r < 0) = true := by simpa using h0
    go_enter Try.func40, Try.ntmps40
    go_wp2_with fail
    go_ret2
    exact ⟨rfl, rfl⟩
  · have d0 : decide (r < 0) = false := by simpa using h0
    by_cases h1 : (s.l.length : Int) ≤ r
    · have e : ldOk s.l r = false := by simp [ldOk, h1]
      have e2 : ldV s.l r = 0 := by rw [ldV, e]; rfl
      rw [e, e2]
      clear e e2
      have d1 : decide ((s.l.length : Int) ≤ r) = true := by simpa using h1
      go_enter Try.func40, Try.ntmps40
      go_wp2_with fail
      go_ret2
      exact ⟨rfl, rfl⟩
    · have d1 : decide ((s.l.length : Int) ≤ r) = false := by simpa using h1
      have hk : r.toNat < s.l.length := by omega
      have e : ldOk s.l r = true := by unfold ldOk; exact decide_eq_true (by omega)
      have e2 : ldV s.l r = s.l[r.toNat] := by rw [ldV, e, if_pos rfl]; simp [List.getD_eq_getElem?_getD, hk]
      rw [e, e2]
      clear e e2
      obtain ⟨b, o, hat, hb, hc⟩ := getW32 25 21 Try.underlying25 (by kernel_rfl) hs'.out r hk (by omega)
      go_enter Try.func40, Try.ntmps40
      go_wp2_with fail
      go_ret2
      exact ⟨rfl, rfl⟩
end Go.Proofs.Ytjlehpgfhlkjlaa
