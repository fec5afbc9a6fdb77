/-
  Which numbers instructions may have: plain.
-/
import Derived.Test.YtjlehpgfhlkjlaaPL7
set_option linter.all false
namespace Jq
theorem lim_one (i : Mach List) : (funcErr ⟨0, [⟨[], [i], ⟨7, -1, 0, [], 0⟩⟩]⟩).1 = insErr i ∧ (funcErr ⟨0, [⟨[], [i], ⟨7, -1, 0, [], 0⟩⟩]⟩).2.1 = 0 := by
  have hg : graphErr ⟨0, [⟨[], [i], ⟨7, -1, 0, [], 0⟩⟩]⟩ = (0, 0, 0) := rfl
  unfold funcErr
  rw [if_neg (by show ¬ ((0 : Int) < 0 ∨ (4 : Int) < 0); decide), if_neg (by show ¬ (1 : Nat) = 0; decide), if_neg (by show ¬ ((512 : Nat) < 1 ∨ (16384 : Int) < sizeOf_ [⟨[], [i], ⟨7, -1, 0, [], 0⟩⟩]); simp [sizeOf_])]
  by_cases h : insErr i = 0
  · have hb : blocksErr ((1 : Nat) : Int) 0 [⟨[], [i], ⟨7, -1, 0, [], 0⟩⟩] = none := by
      rw [blocksErr, blockErr_none _ _ rfl (by show inssErr 0 [i] = none; rw [inssErr, if_pos h]; rfl) rfl]
      rfl
    show (match blocksErr ((1 : Nat) : Int) 0 [⟨[], [i], ⟨7, -1, 0, [], 0⟩⟩] with | some r => r | none => _).1 = _ ∧ (match blocksErr ((1 : Nat) : Int) 0 [⟨[], [i], ⟨7, -1, 0, [], 0⟩⟩] with | some r => r | none => _).2.1 = 0
    rw [hb]
    simp only []
    rw [hg, h]
    exact ⟨rfl, rfl⟩
  · have hb : blocksErr ((1 : Nat) : Int) 0 [⟨[], [i], ⟨7, -1, 0, [], 0⟩⟩] = some (insErr i, 0, 0) := by
      rw [blocksErr, blockErr_ins _ _ (insErr i, 0) rfl (by show inssErr 0 [i] = _; rw [inssErr, if_neg h]; rfl)]
      rfl
    show (match blocksErr ((1 : Nat) : Int) 0 [⟨[], [i], ⟨7, -1, 0, [], 0⟩⟩] with | some r => r | none => _).1 = _ ∧ (match blocksErr ((1 : Nat) : Int) 0 [⟨[], [i], ⟨7, -1, 0, [], 0⟩⟩] with | some r => r | none => _).2.1 = 0
    rw [hb]
    exact ⟨rfl, rfl⟩
theorem d5 {d : Int} (h1 : -2 ≤ d) (h2 : d ≤ 2) : d = -2 ∨ d = -1 ∨ d = 0 ∨ d = 1 ∨ d = 2 := by omega
theorem lim0 (d : Int) (h1 : -2 ≤ d) (h2 : d ≤ 2) : insErr ⟨3, 0, 0, 0, 0, 0, 32767 + d, []⟩ = if d ≤ 0 then 0 else 32 := by
  rcases d5 h1 h2 with rfl | rfl | rfl | rfl | rfl <;> decide
theorem lim1 (d : Int) (h1 : -2 ≤ d) (h2 : d ≤ 2) : insErr ⟨3, 0, 0, 0, 0, 0, -32768 - d, []⟩ = if d ≤ 0 then 0 else 32 := by
  rcases d5 h1 h2 with rfl | rfl | rfl | rfl | rfl <;> decide
theorem lim2 (d : Int) (h1 : -2 ≤ d) (h2 : d ≤ 2) : insErr ⟨19, 0, 0, 0, 0, 0, -128 - d, []⟩ = if d ≤ 0 then 0 else 32 := by
  rcases d5 h1 h2 with rfl | rfl | rfl | rfl | rfl <;> decide
theorem lim3 (d : Int) (h1 : -2 ≤ d) (h2 : d ≤ 2) : insErr ⟨22, 0, 0, 0, 0, 0, 31 + d, []⟩ = if d ≤ 0 then 0 else 32 := by
  rcases d5 h1 h2 with rfl | rfl | rfl | rfl | rfl <;> decide
theorem lim4 (d : Int) (h1 : -2 ≤ d) (h2 : d ≤ 2) : insErr ⟨26, 0, 0, 0, 0, 0, 255 + d, []⟩ = if d ≤ 0 then 0 else 32 := by
  rcases d5 h1 h2 with rfl | rfl | rfl | rfl | rfl <;> decide
theorem lim5 (d : Int) (h1 : -2 ≤ d) (h2 : d ≤ 2) : insErr ⟨24, 0, 0, 0, 0, 0, -d, []⟩ = if d ≤ 0 then 0 else 32 := by
  rcases d5 h1 h2 with rfl | rfl | rfl | rfl | rfl <;> decide
theorem lim6 (d : Int) (h1 : -2 ≤ d) (h2 : d ≤ 2) : insErr ⟨1, 0, 0, 8191 + d, 0, 0, 0, []⟩ = if d ≤ 0 then 0 else 31 := by
  rcases d5 h1 h2 with rfl | rfl | rfl | rfl | rfl <;> decide
theorem lim7 (d : Int) (h1 : -2 ≤ d) (h2 : d ≤ 2) : insErr ⟨28, 0, 0, 0, 0, 0, 0, List.replicate (4 + d).toNat 0⟩ = if d ≤ 0 then 0 else 30 := by
  rcases d5 h1 h2 with rfl | rfl | rfl | rfl | rfl <;> decide
theorem lim8 (d : Int) (h1 : -2 ≤ d) (h2 : d ≤ 2) : (funcErr ⟨0, [⟨[], [⟨1, 0, 0, 0, 0, 0, 0, []⟩], ⟨6, 0, 0, List.replicate (65 + d).toNat 1, 0⟩⟩, ⟨[], [], ⟨8, 0, 0, [], 0⟩⟩]⟩).1 = (if d ≤ 0 then 0 else 30) ∧ (funcErr ⟨0, [⟨[], [⟨1, 0, 0, 0, 0, 0, 0, []⟩], ⟨6, 0, 0, List.replicate (65 + d).toNat 1, 0⟩⟩, ⟨[], [], ⟨8, 0, 0, [], 0⟩⟩]⟩).2.1 = 0 := by
  rcases d5 h1 h2 with rfl | rfl | rfl | rfl | rfl <;> decide +kernel
end Jq
