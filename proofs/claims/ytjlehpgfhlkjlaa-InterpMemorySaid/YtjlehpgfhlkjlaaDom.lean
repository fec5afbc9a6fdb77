/-
  graph.Dominates.
-/
import Derived.Test.YtjlehpgfhlkjlaaOrd
set_option linter.all false
namespace Jq
open Go Go.RowKit
def chase (idom : List Int) (a : Int) : Nat → Int → Bool
  | 0, _ => false
  | n + 1, b => if a = b then true else if isB idom.length b then chase idom a n (idom.getD b.toNat 0) else false
/-- graph.Dominates. -/
def domOf (idom : List Int) (a b : Int) : Bool := isB idom.length a && isB idom.length b && chase idom a (idom.length + 1) b
end Jq
namespace Go.Proofs.Ytjlehpgfhlkjlaa
open Go.RowKit Jq
set_option linter.unusedVariables false
set_option maxRecDepth 100000 in
set_option maxHeartbeats 1000000 in
/-- 'graph.Dominates$1': is. -/
theorem grIs (s : Sl Int) (x : Int) (g : Nat) (w : World) (hc : w.cell? ⟨g, 0, none⟩ = some s.val) : Calls Try.prog 157 #[.int .i64 x, .pointer (some ⟨g, 0, none⟩)] w fun e w' => e = .returned (.bool (isB s.l.length x)) ∧ w = w' := by
  by_cases h1 : 0 ≤ x
  · by_cases h2 : x < (s.l.length : Int)
    · have e : isB s.l.length x = true := by simp [isB, h1, h2]
      rw [e]
      clear e
      go_enter Try.func157, Try.ntmps157
      go_wp2_with fail
      go_ret
      exact ⟨rfl, rfl⟩
    · have e : isB s.l.length x = false := by simp [isB, h2]
      have h3 : (s.l.length : Int) ≤ x := by omega
      rw [e]
      clear e h2
      go_enter Try.func157, Try.ntmps157
      go_wp2_with fail
      go_ret
      refine ⟨?_, rfl⟩
      show Ending.returned (.bool (decide (x < (s.l.length : Int)))) = _
      rw [decide_eq_false (by omega)]
  · have e : isB s.l.length x = false := by simp [isB, h1]
    have h3 : x < 0 := by omega
    rw [e]
    clear e h1
    go_enter Try.func157, Try.ntmps157
    go_wp2_with fail
    go_ret
    exact ⟨rfl, rfl⟩
set_option maxRecDepth 100000 in
set_option maxHeartbeats 1000000 in
/-- 'graph.Dominates'. -/
theorem grDom (s : Sl Int) (a b : Int) (w : World) (hs : kI.sl.rd w s) : Calls Try.prog 147 #[s.val, .int .i64 a, .int .i64 b] w fun e w' => e = .returned (.bool (domOf s.l a b)) ∧ Below w.heap.size w w' := by
  have hbd := Kd.bound hs
  obtain ⟨W, hW⟩ : ∃ W, W = w.alloc (.cells #[s.val] 38) := ⟨_, rfl⟩
  have hB := Lib.hid (show Below w.heap.size w W by subst hW; exact bal (Below.refl _ _) _)
  have hs' := Lib.hid (kI.sl.below hs hB.out)
  have hc : W.cell? ⟨w.heap.size, 0, none⟩ = some s.val := by subst hW; simp
  have hW' := Lib.hid hW
  clear hs
  go_enter Try.func147, Try.ntmps147
  go_wp2_with fail
  rw [show w.alloc (.cells #[s.val] 38) = W from hW'.out.symm]
  clear hW
  refine (grIs s a w.heap.size W hc).mono ?_
  rintro e w1 ⟨rfl, rfl⟩
  cases ha : isB s.l.length a with
  | false =>
    have e : domOf s.l a b = false := by simp [domOf, ha]
    have e' := Lib.hid e
    clear e ha
    go_wp2_with fail
    go_ret
    exact ⟨by rw [e'.out]; rfl, hB.out⟩
  | true =>
    have ha' := Lib.hid ha
    clear ha
    go_wp2_with fail
    refine (grIs s b w.heap.size W hc).mono ?_
    rintro e w1 ⟨rfl, rfl⟩
    cases hb : isB s.l.length b with
    | false =>
      have e : domOf s.l a b = false := by simp [domOf, hb]
      have e' := Lib.hid e
      clear e hb
      go_wp2_with fail
      go_ret
      exact ⟨by rw [e'.out]; rfl, hB.out⟩
    | true =>
      have hb' := Lib.hid hb
      clear hb
      have hd := Lib.hid (show domOf s.l a b = chase s.l a (s.l.length + 1) b by simp [domOf, ha'.out, hb'.out])
      go_wp2_with fail
      go_loopg [2, 22] (s.l.length + 1) (fun g u q wr => ∃ (j : Nat) (c : Int), q = .int .i64 j ∧ u = .int .i64 c ∧ j ≤ s.l.length + 1 ∧ g = s.l.length + 1 - j ∧ wr = W ∧ chase s.l a (s.l.length + 1 - j) c = domOf s.l a b)
      case atStart => exact ⟨0, b, rfl, rfl, Nat.zero_le _, rfl, rfl, hd.out.symm⟩
      case round =>
        obtain ⟨j, c, rfl, rfl, hj, hg, hwr, hch⟩ := hrel
        subst hwr
        have hg' := Lib.hid hg
        clear hg
        by_cases hlt : j < s.l.length + 1
        · rw [show s.l.length + 1 - j = (s.l.length - j) + 1 by omega, chase] at hch
          have hltI : (j : Int) < (s.l.length : Int) + 1 := by omega
          by_cases hac : a = c
          · have dac : (a == c) = true := by simpa using hac
            rw [if_pos hac] at hch
            have e' := Lib.hid hch
            clear hch hac hlt
            go_wp2_with fail
            go_ret
            exact ⟨by rw [← e'.out]; rfl, hB.out⟩
          · have dac : (a == c) = false := by simpa using hac
            rw [if_neg hac] at hch
            have hch' := Lib.hid hch
            clear hch hac
            go_wp2_with fail
            refine (grIs s c w.heap.size wr hc).mono ?_
            rintro e w1 ⟨rfl, rfl⟩
            cases hcc : isB s.l.length c with
            | false =>
              have hch := hch'.out
              rw [hcc] at hch
              simp only [Bool.false_eq_true, if_false] at hch
              have e' := Lib.hid hch
              clear hch hcc
              go_wp2_with fail
              go_ret
              exact ⟨by rw [← e'.out]; rfl, hB.out⟩
            | true =>
              have hc2 : 0 ≤ c ∧ c < (s.l.length : Int) := by simpa [isB] using hcc
              obtain ⟨k, rfl⟩ : ∃ k : Nat, c = (k : Int) := ⟨c.toNat, by omega⟩
              have hks : k < s.l.length := by omega
              obtain ⟨b2, o2, h2, hb2, hc3⟩ := getI 38 3 Try.underlying38 (by kernel_rfl) hs'.out k hks rfl
              have hch := hch'.out
              rw [hcc, if_pos rfl, Int.toNat_natCast, show s.l.getD k 0 = s.l[k] by simp [List.getD_eq_getElem?_getD, hks]] at hch
              have hch2 := Lib.hid hch
              clear hch hcc hc2 hch'
              go_wp2_with fail
              go_roundg (s.l.length + 1 - (j + 1))
              case measure => have := hg'.out; omega
              case rel => exact ⟨j + 1, s.l[k], by go_num, rfl, by omega, rfl, rfl, by rw [← hch2.out, show s.l.length + 1 - (j + 1) = s.l.length - j by omega]⟩
        · have hjl : j = s.l.length + 1 := by omega
          subst hjl
          rw [Nat.sub_self, chase] at hch
          have e' := Lib.hid hch
          clear hch
          go_wp2_with fail
          go_ret
          exact ⟨by rw [← e'.out]; rfl, hB.out⟩
end Go.Proofs.Ytjlehpgfhlkjlaa
