/-
  jacquardref04.Words.
-/
import Derived.Test.YtjlehpgfhlkjlaaEv
set_option linter.all false
namespace Go.Proofs.Ytjlehpgfhlkjlaa
open Go.RowKit Jq Go.Deep
set_option linter.unusedVariables false
theorem take_nx {α : Type} (l : List α) (i : Nat) (x : α) (hx : l[i]? = some x) : l.take i ++ [x] = l.take (i + 1) := by
  obtain ⟨h, rfl⟩ := List.getElem?_eq_some_iff.1 hx
  simp
set_option maxRecDepth 1000000 in
set_option maxHeartbeats 800000 in
/-- 'jacquardref04.Words'. -/
theorem refWords (s t : Sl Int) (w : World) (hs : kW.sl.rd w s) (ht : kW.sl.rd w t) :
    Calls Try.prog 27 #[s.val, t.val] w fun e w' => e = .returned (.bool (s.l == t.l)) ∧ Below w.heap.size w w' := by
  have hbs := Kd.bound hs
  have hbt := Kd.bound ht
  have hs' := Lib.hid hs
  have ht' := Lib.hid ht
  clear hs ht
  by_cases hl : s.l.length = t.l.length
  · have hd : decide (s.l.length = t.l.length) = true := by simpa using hl
    have hn : ((s.l.length : Int) != (t.l.length : Int)) = false := by simp [hl]
    have hl' := Lib.hid hl
    clear hl
    go_enter Try.func27, Try.ntmps27
    go_wp2_with fail
    go_loopw [5] (fun k wr => ∃ j : Nat, k = .int .i64 j ∧ j ≤ s.l.length ∧ Below w.heap.size w wr ∧ s.l.take j = t.l.take j) (fun k _ => s.l.length - (intOf k).toNat)
    case atStart => exact ⟨0, rfl, Nat.zero_le _, Below.refl _ _, rfl⟩
    case round =>
      obtain ⟨j, rfl, hj, hB, he⟩ := hrel
      have hB' := Lib.hid hB
      have he' := Lib.hid he
      clear hB he
      by_cases hlt : j < s.l.length
      · have hlt2 : j < t.l.length := by have := hl'.out; omega
        obtain ⟨b1, o1, h1, hb1, hc1⟩ := getW 25 21 Try.underlying25 (by kernel_rfl) (kW.sl.below hs'.out hB'.out) j hlt rfl
        obtain ⟨b2, o2, h2, hb2, hc2⟩ := getW 25 21 Try.underlying25 (by kernel_rfl) (kW.sl.below ht'.out hB'.out) j hlt2 rfl
        by_cases hq : s.l[j] = t.l[j]
        · have d1 : (s.l[j] != t.l[j]) = false := by simpa using hq
          have hq' := Lib.hid hq
          clear hq
          go_wp2_with fail
          go_quiet (fail)
          go_wp2_with fail
          go_roundw
          case rel => exact ⟨j + 1, by go_num, by omega, below_drewN hB'.out _, by rw [← take_nx _ j s.l[j] (by simp [hlt]), ← take_nx _ j t.l[j] (by simp [hlt2]), he'.out, hq'.out]⟩
          case measure => simp [intOf]; omega
        · have d1 : (s.l[j] != t.l[j]) = true := by simpa using hq
          have hq' := Lib.hid hq
          clear hq
          go_wp2_with fail
          go_quiet (fail)
          go_wp2_with fail
          go_ret
          refine ⟨?_, below_drewN hB'.out _⟩
          have : (s.l == t.l) = false := by
            rw [beq_eq_false_iff_ne]
            intro e
            have h3 : s.l[j]? = t.l[j]? := by rw [e]
            rw [List.getElem?_eq_getElem hlt, List.getElem?_eq_getElem hlt2] at h3
            exact hq'.out (by simpa using h3)
          rw [this]
          rfl
      · have hjl : j = s.l.length := by omega
        subst hjl
        go_wp2_with fail
        go_ret
        refine ⟨?_, hB'.out⟩
        have h3 := he'.out
        rw [List.take_length, List.take_of_length_le (by have := hl'.out; omega)] at h3
        rw [h3]
        simp
  · have hn : ((s.l.length : Int) != (t.l.length : Int)) = true := by simp; omega
    have hn2 : decide (s.l.length = t.l.length) = false := by simpa using hl
    have hl' := Lib.hid hl
    clear hl
    go_enter Try.func27, Try.ntmps27
    go_wp2_with fail
    go_ret
    refine ⟨?_, Below.refl _ _⟩
    have : (s.l == t.l) = false := by
      rw [beq_eq_false_iff_ne]
      intro e
      exact hl'.out (by rw [e])
    rw [this]
    rfl
end Go.Proofs.Ytjlehpgfhlkjlaa
