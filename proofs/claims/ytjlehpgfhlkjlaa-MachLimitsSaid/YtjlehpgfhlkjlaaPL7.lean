/-
  The statements of chapter 7: what they ask of plain code.
-/
import Derived.Test.YtjlehpgfhlkjlaaPRun2
set_option linter.all false
namespace Jq
theorem mget_at (l : List Int) (k : Nat) (h : k < l.length) : mget l (k : Int) = l[k] := by
  rw [mget, if_neg (by omega), Int.toNat_natCast, List.getD_eq_getElem?_getD, List.getElem?_eq_getElem h]
  rfl
theorem mset_at (l : List Int) (k : Nat) (v : Int) (h : k < l.length) : mset l (k : Int) v = l.set k v := by
  rw [mset, if_pos (by omega), Int.toNat_natCast]
theorem mget_set (l : List Int) (k : Nat) (v : Int) (h : k < l.length) : mget (mset l (k : Int) v) (k : Int) = v := by
  rw [mset_at l k v h, mget_at _ k (by simpa using h)]
  simp
/-- The examples at the head. -/
theorem shown_run : mrun ⟨1, [⟨[], [⟨18, 1, 0, 0, 0, 0, -3, []⟩], ⟨7, 1, 0, [], 0⟩⟩]⟩ ⟨[5], [], [], 9⟩ = ⟨1, 2, [], [], 2⟩ := by
  rw [mrun, if_pos (by decide)]
  obtain ⟨R, hR⟩ : ∃ R, R = regs0 1 [5] := ⟨_, rfl⟩
  have hRl : R.length = 8192 := by rw [hR, regs0, List.length_append, List.length_replicate]; rfl
  have hR0 : mget R 0 = 5 := by
    rw [hR, regs0]
    exact mget_at ([5] ++ List.replicate _ 0) 0 (by rw [List.length_append]; exact Nat.lt_of_lt_of_le (by decide : 0 < [(5 : Int)].length) (Nat.le_add_right _ _))
  have hd : mdo ⟨18, 1, 0, 0, 0, 0, -3, []⟩ R [] = ((0, true), mset R 1 2, []) := by
    rw [mdo_arm (v := 2) (tt := 0) (ok := true) (m := []) (by decide) (by show mval 18 (mget R 0) (mget R 0) (mget R 0) (-3) [] = _; rw [hR0]; simp [mval, wdo, immOp, Go.RowKit.wrap32]) rfl]
    rfl
  have hi : insRun 9 [⟨18, 1, 0, 0, 0, 0, -3, []⟩] ⟨R, [], [], [], 0⟩ = (⟨mset R 1 2, [], [], [], 1⟩, none) := by
    rw [insRun_go (by show (0 : Int) < 9; decide) (by decide) (by rw [hd])]
    show (doIns _ _, none) = _
    unfold doIns RS.step
    simp only []
    rw [hd]
    rfl
  have hrs : rs0 ⟨1, [⟨[], [⟨18, 1, 0, 0, 0, 0, -3, []⟩], ⟨7, 1, 0, [], 0⟩⟩]⟩ ⟨[5], [], [], 9⟩ = ⟨R, [], [], [], 0⟩ := by rw [hR]; rfl
  rw [hrs]
  show outOf (runAt _ 9 (9 + 1) 0 (-1) _) = _
  rw [runAt_ret (m := ⟨1, [⟨[], [⟨18, 1, 0, 0, 0, 0, -3, []⟩], ⟨7, 1, 0, [], 0⟩⟩]⟩) (b := ⟨[], [⟨18, 1, 0, 0, 0, 0, -3, []⟩], ⟨7, 1, 0, [], 0⟩⟩) rfl hi (by show (1 : Int) < 9; decide) rfl]
  unfold outOf
  simp only []
  rw [show mget (mset R 1 2) 1 = 2 from mget_set R 1 2 (by omega)]
  rfl
theorem shown_err : (funcErr ⟨1, [⟨[], [⟨18, 1, 0, 0, 0, 0, 128, []⟩], ⟨7, 1, 0, [], 0⟩⟩]⟩).1 = 32 := by decide
example : (funcErr ⟨1, [⟨[], [⟨18, 1, 0, 0, 0, 0, -3, []⟩], ⟨7, 1, 0, [], 0⟩⟩]⟩).1 = 0 := by decide
end Jq
