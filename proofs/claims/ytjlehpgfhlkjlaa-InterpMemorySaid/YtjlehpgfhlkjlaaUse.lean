/-
  check.looker.uses$1: a value may be used.
-/
import Derived.Test.YtjlehpgfhlkjlaaCk3
import Derived.Test.YtjlehpgfhlkjlaaDom
set_option linter.all false
namespace Jq
open Go Go.RowKit
/-- May a value be used in a block, ahead of a place? -/
def siteOk (idom : List Int) (s : Site) (block at_ : Int) : Bool := (s.b == block && (decide (s.p < at_) || decide (s.p < 0))) || (!(s.b == block) && domOf idom s.b block)
def useOk (params : Int) (l : List Site) (idom : List Int) (v block at_ : Int) : Bool := decide (0 ≤ v ∧ v < params) || match l.find? (fun s => v == s.n) with
  | none => false
  | some s => siteOk idom s block at_
end Jq
namespace Go.Proofs.Ytjlehpgfhlkjlaa
open Go.RowKit Jq
set_option linter.unusedVariables false
set_option maxRecDepth 100000 in
set_option maxHeartbeats 1000000 in
/-- 'use', of a value that may be. -/
theorem ckUse (kb mb gk gi : Nat) (params v block place at_ told : Int) (blocks : Sl (Block Sl)) (l : List Site) (idom : Sl Int) (w : World) (hk : LK kb mb params blocks 167 w l) (ck : w.cell? ⟨gk, 0, none⟩ = some (.pointer (some ⟨kb, 0, none⟩))) (ci : w.cell? ⟨gi, 0, none⟩ = some idom.val) (hi : kI.sl.rd w idom) (h : useOk params l idom.l v block at_ = true) :
    Calls Try.prog 146 #[.int .i64 v, .int .i64 block, .int .i64 place, .int .i64 at_, .int .i64 told, .pointer (some ⟨gk, 0, none⟩), .pointer (some ⟨gi, 0, none⟩)] w fun e w' => e = .returned (.tuple #[]) ∧ Below w.heap.size w w' := by
  have hgi : gi < w.heap.size := by
    refine Nat.lt_of_not_le fun hle => ?_
    have hn : w.heap[gi]? = none := Array.getElem?_eq_none hle
    simp [World.cell?, hn] at ci
  have c0 : w.cell? ⟨kb, 0, none⟩ = some (.int .i64 params) := by simp [World.cell?, hk.k]
  have c2 : w.cell? ⟨kb, 2, none⟩ = some (.map (some mb)) := by simp [World.cell?, hk.k]
  by_cases hv : 0 ≤ v ∧ v < params
  · obtain ⟨h1, h2⟩ := hv
    clear h hk hi
    go_enter Try.func146, Try.ntmps146
    go_wp2_with fail
    refine bodyPost_ret (results_none rfl _ _ _) rfl ?_
    exact ⟨rfl, Below.refl _ _⟩
  · have hask := run_ask2 (P := Try.prog) 165 3 _ .i64 Try.underlying165 Try.underlying3 (.agg #[.int .i64 0, .int .i64 0]) (fun w => by kernel_rfl) w mb (l.map Site.e) v hk.m
    rw [lk_site] at hask
    unfold useOk at h
    rw [decide_eq_false hv, Bool.false_or] at h
    split at h
    · exact absurd h (by simp)
    · rename_i s hf
      rw [hf] at hask
      simp only [Option.map_some, Option.getD_some, Option.isSome_some] at hask
      have hi' := Lib.hid hi
      have hB : Below w.heap.size w (w.alloc (.cells #[.int .i64 s.b, .int .i64 s.p] 183)) := bal (Below.refl _ _) _
      have hB' := Lib.hid hB
      have hdm := Lib.hid (grDom idom s.b block (w.alloc (.cells #[.int .i64 s.b, .int .i64 s.p] 183)) (kI.sl.below hi hB))
      have hpv : v < 0 ∨ (0 ≤ v ∧ params ≤ v) := by omega
      clear hf hi hB hk hv
      unfold siteOk at h
      cases hb : s.b == block with
      | true =>
        rw [hb] at h
        simp only [Bool.true_and, Bool.not_true, Bool.false_and, Bool.or_false, Bool.or_eq_true, decide_eq_true_eq] at h
        have hbn : (s.b != block) = false := by simp [bne, hb]
        rcases hpv with hpv | ⟨hpv, hpv2⟩ <;> rcases (by omega : s.p < at_ ∨ (at_ ≤ s.p ∧ s.p < 0)) with h4 | ⟨h4, h5⟩
        all_goals
          clear h
          go_enter Try.func146, Try.ntmps146
          go_wp2_with fail
          refine (ckMust 13 told place _).mono ?_
          rintro e w1 ⟨rfl, rfl⟩
          go_wp2_with fail
          go_end0
          exact ⟨rfl, hB'.out⟩
      | false =>
        rw [hb] at h
        simp only [Bool.false_and, Bool.not_false, Bool.true_and, Bool.false_or] at h
        have hbn : (s.b != block) = true := by simp [bne, hb]
        rw [h] at hdm
        rcases hpv with hpv | ⟨hpv, hpv2⟩
        all_goals
          clear h
          go_enter Try.func146, Try.ntmps146
          go_wp2_with fail
          refine hdm.out.mono ?_
          rintro e w1 ⟨rfl, hb1⟩
          have hb1' := Lib.hid hb1
          clear hb1
          go_wp2_with fail
          refine (ckMust 13 told place _).mono ?_
          rintro e w2 ⟨rfl, rfl⟩
          go_wp2_with fail
          go_end0
          exact ⟨rfl, bthen hB'.out hb1'.out⟩
end Go.Proofs.Ytjlehpgfhlkjlaa
