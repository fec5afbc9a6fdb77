/-
  Package word: Wide, Fits: what each call answers.
-/
import Derived.Test.YtjlehpgfhlkjlaaRows
import Derived.Test.YtjlehpgfhlkjlaaP
import Derived.WalkSpells
import Derived.WalkLawsBesides
set_option linter.all false
namespace Go.Proofs.Ytjlehpgfhlkjlaa
open Go.RowKit Jq

set_option maxHeartbeats 400000 in
theorem wordWide (a b : Int) (w : World) :
    Calls Try.prog 29 #[.int .i32 a, .int .i32 b] w fun e w' => e = .returned (.tuple #[.int .i32 (wlo a b), .int .i32 (whi a b)]) ∧ w = w' := by
  go_enter Try.func29, Try.ntmps29
  go_wp2
  go_ret2
  exact ⟨rfl, rfl⟩

theorem bool_eq {a b : Bool} (h : a = b) : Ending.returned (.bool a) = .returned (.bool b) := by rw [h]
theorem fit16 (a : Int) : (wrap32 (a * 65536) / 65536 == a) = fits 16 a := by
  rw [Bool.eq_iff_iff]; simp [wrap32, fits]; omega
theorem fit8 (a : Int) : (wrap32 (a * 16777216) / 16777216 == a) = fits 8 a := by
  rw [Bool.eq_iff_iff]; simp [wrap32, fits]; omega
set_option maxHeartbeats 400000 in
theorem wordFits16 (a : Int) (w : World) :
    Calls Try.prog 124 #[.int .i32 a, .int .i64 16] w fun e w' => e = .returned (.bool (fits 16 a)) ∧ w = w' := by
  go_enter Try.func124, Try.ntmps124
  go_wp2
  go_ret
  exact ⟨bool_eq (fit16 a), rfl⟩
set_option maxHeartbeats 400000 in
theorem wordFits8 (a : Int) (w : World) :
    Calls Try.prog 124 #[.int .i32 a, .int .i64 8] w fun e w' => e = .returned (.bool (fits 8 a)) ∧ w = w' := by
  go_enter Try.func124, Try.ntmps124
  go_wp2
  go_ret
  exact ⟨bool_eq (fit8 a), rfl⟩
end Go.Proofs.Ytjlehpgfhlkjlaa
