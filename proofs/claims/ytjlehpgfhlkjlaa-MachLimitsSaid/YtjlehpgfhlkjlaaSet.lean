/-
  mach.Do$1, interp.Store: what writes a word of a row of one's own.
-/
import Derived.Test.YtjlehpgfhlkjlaaGet
set_option linter.all false
namespace Jq
open Go Go.RowKit
/-- A word of a row of one's own has been written (or there is no such place). -/
theorem Own.setAt {T : TypeId} {base : Nat} {w : World} {s : Sl Int} (h : Own kW T base w s) (r v : Int) (hk : 0 ≤ r ∧ r < (s.l.length : Int)) :
    ∃ g, s.A = some ⟨g, 0, none⟩ ∧ base ≤ g ∧ g < w.heap.size ∧ w.cell? ⟨g, r.toNat, none⟩ = some (.int .i32 (s.l[r.toNat]'(by omega))) ∧ w.frozen? ⟨g, r.toNat, none⟩ = false ∧ s.val.ownBlock = some g ∧
      Own kW T base (w.setCell ⟨g, r.toNat, none⟩ (.int .i32 v)) (s.wl (mset s.l r v)) := by
  obtain ⟨g, h1, h2, h3, h4, h5, h6, h7⟩ := h.spot (c := fun x => .int .i32 x) rfl (fun _ => rfl) (k := r.toNat) (by omega)
  refine ⟨g, h1, h2, h3, h4, h5, h6, ?_⟩
  have := h7 v trivial (fun q hq => by simp [kW, Kd.scalar] at hq)
  rw [Sl.wl, mset, if_pos hk]
  exact this
end Jq
namespace Go.Proofs.Ytjlehpgfhlkjlaa
open Go.RowKit Jq Go.Deep
set_option linter.unusedVariables false
set_option maxRecDepth 1000000 in
set_option maxHeartbeats 800000 in
/-- 'mach.Do$1': set. -/
theorem doSet (R : Sl Int) (r v : Int) (bx : Nat) (base : Nat) (w : World) (hR : Own kW 21 base w R) (hb : w.cell? ⟨bx, 0, none⟩ = some R.val) :
    Calls Try.prog 54 #[.int .i64 r, .int .i32 v, .pointer (some ⟨bx, 0, none⟩)] w fun e w' => e = .returned (.tuple #[]) ∧ Own kW 21 base w' (R.wl (mset R.l r v)) ∧ Chg (fun k => some k = R.val.ownBlock) w w' ∧ w'.heap.size = w.heap.size := by
  have hbd := Kd.bound hR.rd
  have hR' := Lib.hid hR
  clear hR
  by_cases h0 : r < 0
  · have e : mset R.l r v = R.l := by rw [mset, if_neg (by omega)]
    rw [e]
    clear e
    have d0 : decide (0 ≤ r) = false := by simpa using h0
    go_enter Try.func54, Try.ntmps54
    go_wp2_with fail
    go_end0
    exact ⟨rfl, hR'.out, Chg.refl _ _, rfl⟩
  · have d0 : decide (0 ≤ r) = true := by simpa using h0
    by_cases h1 : r < (R.l.length : Int)
    · obtain ⟨g, hA, hbs, hlt, hc, hf, hob, hst⟩ := hR'.out.setAt r v ⟨by omega, h1⟩
      have d1 : decide (r < (R.l.length : Int)) = true := by simpa using h1
      have hat := Kd.run_index (P := Try.prog) 25 21 Try.underlying25 R g 0 1 hA (by kernel_rfl) r r.toNat (by omega) (by omega)
      rw [Nat.zero_add, Nat.mul_one] at hat
      have hst' := Lib.hid hst
      clear hst
      go_enter Try.func54, Try.ntmps54
      go_wp2_with fail
      go_end0
      exact ⟨rfl, hst'.out, (Chg.refl _ _).set _ _ _ (Or.inl hob.symm), by simp [World.setCell]⟩
    · have e : mset R.l r v = R.l := by rw [mset, if_neg (by omega)]
      rw [e]
      clear e
      have d1 : decide (r < (R.l.length : Int)) = false := by simpa using h1
      go_enter Try.func54, Try.ntmps54
      go_wp2_with fail
      go_end0
      exact ⟨rfl, hR'.out, Chg.refl _ _, rfl⟩
theorem ldOk_iff (l : List Int) (r : Int) : ldOk l r = true ↔ 0 ≤ r ∧ r < (l.length : Int) := by unfold ldOk; rw [decide_eq_true_iff]; omega
set_option maxRecDepth 1000000 in
set_option maxHeartbeats 800000 in
/-- 'interp.Store'. -/
theorem interpStore (R : Sl Int) (r v : Int) (base : Nat) (w : World) (hR : Own kW 21 base w R) (hr : wrap64 r = r) :
    Calls Try.prog 41 #[R.val, .int .i32 r, .int .i32 v] w fun e w' => e = .returned (.bool (ldOk R.l r)) ∧ Own kW 21 base w' (R.wl (mset R.l r v)) ∧ Chg (fun k => some k = R.val.ownBlock) w w' ∧ w'.heap.size = w.heap.size := by
  have hc' := Lib.hid (interpLoad R r w hR.rd hr)
  have hR' := Lib.hid hR
  clear hR
  cases hk : ldOk R.l r with
  | true =>
    rw [hk] at hc'
    obtain ⟨g, hA, hbs, hlt, hc, hf, hob, hst⟩ := hR'.out.setAt r v ((ldOk_iff _ _).1 hk)
    have hat := run_index32 (P := Try.prog) 25 21 Try.underlying25 R g 0 1 hA (by kernel_rfl) r r.toNat (by have := (ldOk_iff _ _).1 hk; omega) (by have := (ldOk_iff _ _).1 hk; omega)
    rw [Nat.zero_add, Nat.mul_one] at hat
    have hst' := Lib.hid hst
    clear hst
    go_enter Try.func41, Try.ntmps41
    go_wp2_with fail
    refine hc'.out.mono ?_
    rintro e w1 ⟨rfl, rfl⟩
    go_wp2_with fail
    go_ret
    exact ⟨rfl, hst'.out, (Chg.refl _ _).set _ _ _ (Or.inl hob.symm), by simp [World.setCell]⟩
  | false =>
    rw [hk] at hc'
    have e : mset R.l r v = R.l := by rw [mset, if_neg (by rw [← ldOk_iff, hk]; simp)]
    rw [e]
    clear e
    go_enter Try.func41, Try.ntmps41
    go_wp2_with fail
    refine hc'.out.mono ?_
    rintro e w1 ⟨rfl, rfl⟩
    go_wp2_with fail
    go_ret
    exact ⟨rfl, hR'.out, Chg.refl _ _, rfl⟩
end Go.Proofs.Ytjlehpgfhlkjlaa
