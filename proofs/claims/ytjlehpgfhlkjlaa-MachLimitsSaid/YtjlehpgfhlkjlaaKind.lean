/-
  mach.kindOf: which functions it tells, by an Op.
-/
import Derived.Test.YtjlehpgfhlkjlaaRows
import Derived.Test.YtjlehpgfhlkjlaaMap
import Derived.Test.YtjlehpgfhlkjlaaP
import Derived.Laws.EntriesVeiled
import Derived.Lib.Hide
set_option linter.all false
namespace Go.Proofs.Ytjlehpgfhlkjlaa
open Go.RowKit Jq

/-- Which functions tell what an Op takes, and what it makes. -/
def tkOf (op : Int) : FuncId :=
  if op = 1 ∨ 18 ≤ op ∧ op ≤ 22 ∨ op = 24 ∨ op = 31 then 94 else
  if op = 2 ∨ 5 ≤ op ∧ op ≤ 17 ∨ op = 25 ∨ op = 26 ∨ op = 29 then 95 else
  if op = 23 ∨ op = 27 then 96 else
  if op = 28 then 97 else 92
def mkOf (op : Int) : FuncId :=
  if op = 2 then 95 else
  if op = 29 then 99 else
  if op = 26 ∨ op = 27 ∨ op = 31 ∨ op < 1 ∨ 31 < op then 92 else 93

theorem kind_end {w w' : World} {a b : FuncId} (op : Int) (ha : a = tkOf op) (hb : b = mkOf op) (h : Below w.heap.size w w') :
    Ending.returned (.agg #[.func (.func a) #[] #[], .func (.func b) #[] #[]]) = .returned (.agg #[.func (.func (tkOf op)) #[] #[], .func (.func (mkOf op)) #[] #[]]) ∧ Below w.heap.size w w' := by
  subst ha; subst hb; exact ⟨rfl, h⟩
set_option maxRecDepth 100000 in
set_option maxHeartbeats 8000000 in
theorem kindOf (op : Int) (w : World) :
    Calls Try.prog 53 #[.int .i64 op] w fun e w' => e = .returned (.agg #[.func (.func (tkOf op)) #[] #[], .func (.func (mkOf op)) #[] #[]]) ∧ Below w.heap.size w w' := by
  have hlc := lk_cons
  have hln := lk_nil
  have hmm := run_newMap (P := Try.prog) 134 .i64
  have hins := run_newKey (P := Try.prog) 134 3 _ .i64 Try.underlying134 Try.underlying3
  go_enter Try.func53, Try.ntmps53
  go_wp2
  have hask := run_askLast2 (P := Try.prog) 134 3 _ .i64 Try.underlying134 Try.underlying3 (.agg #[.nilFunc, .nilFunc]) (fun w => by kernel_rfl)
  clear hmm hins
  have hop : op = 1 ∨ op = 2 ∨ op = 3 ∨ op = 4 ∨ op = 23 ∨ op = 24 ∨ op = 25 ∨ op = 26 ∨ op = 27 ∨ op = 28 ∨ op = 29 ∨ op = 30 ∨ op = 31 ∨ 5 ≤ op ∧ op ≤ 17 ∨ 18 ≤ op ∧ op ≤ 22 ∨ (op < 1 ∨ 31 < op) := by omega
  rcases hop with rfl | rfl | rfl | rfl | rfl | rfl | rfl | rfl | rfl | rfl | rfl | rfl | rfl | hop | hop | hop
  case inl =>
    go_simp
    go_wp2
    exact bodyPost_ret (v := .agg #[.func (.func 94) #[] #[], .func (.func 93) #[] #[]]) (by simp [results, Try.results53, go_sem]) rfl (kind_end _ (by decide) (by decide) (by repeat (first | exact Below.refl _ _ | refine bal ?_ _ | refine bset ?_ _ _ (by simp) | refine Below.drew ?_)))
  case inr.inl =>
    go_simp
    go_wp2
    exact bodyPost_ret (v := .agg #[.func (.func 95) #[] #[], .func (.func 95) #[] #[]]) (by simp [results, Try.results53, go_sem]) rfl (kind_end _ (by decide) (by decide) (by repeat (first | exact Below.refl _ _ | refine bal ?_ _ | refine bset ?_ _ _ (by simp) | refine Below.drew ?_)))
  case inr.inr.inl =>
    go_simp
    go_wp2
    exact bodyPost_ret (v := .agg #[.func (.func 92) #[] #[], .func (.func 93) #[] #[]]) (by simp [results, Try.results53, go_sem]) rfl (kind_end _ (by decide) (by decide) (by repeat (first | exact Below.refl _ _ | refine bal ?_ _ | refine bset ?_ _ _ (by simp) | refine Below.drew ?_)))
  case inr.inr.inr.inl =>
    go_simp
    go_wp2
    exact bodyPost_ret (v := .agg #[.func (.func 92) #[] #[], .func (.func 93) #[] #[]]) (by simp [results, Try.results53, go_sem]) rfl (kind_end _ (by decide) (by decide) (by repeat (first | exact Below.refl _ _ | refine bal ?_ _ | refine bset ?_ _ _ (by simp) | refine Below.drew ?_)))
  case inr.inr.inr.inr.inl =>
    go_simp
    go_wp2
    exact bodyPost_ret (v := .agg #[.func (.func 96) #[] #[], .func (.func 93) #[] #[]]) (by simp [results, Try.results53, go_sem]) rfl (kind_end _ (by decide) (by decide) (by repeat (first | exact Below.refl _ _ | refine bal ?_ _ | refine bset ?_ _ _ (by simp) | refine Below.drew ?_)))
  case inr.inr.inr.inr.inr.inl =>
    go_simp
    go_wp2
    exact bodyPost_ret (v := .agg #[.func (.func 94) #[] #[], .func (.func 93) #[] #[]]) (by simp [results, Try.results53, go_sem]) rfl (kind_end _ (by decide) (by decide) (by repeat (first | exact Below.refl _ _ | refine bal ?_ _ | refine bset ?_ _ _ (by simp) | refine Below.drew ?_)))
  case inr.inr.inr.inr.inr.inr.inl =>
    go_simp
    go_wp2
    exact bodyPost_ret (v := .agg #[.func (.func 95) #[] #[], .func (.func 93) #[] #[]]) (by simp [results, Try.results53, go_sem]) rfl (kind_end _ (by decide) (by decide) (by repeat (first | exact Below.refl _ _ | refine bal ?_ _ | refine bset ?_ _ _ (by simp) | refine Below.drew ?_)))
  case inr.inr.inr.inr.inr.inr.inr.inl =>
    go_simp
    go_wp2
    exact bodyPost_ret (v := .agg #[.func (.func 95) #[] #[], .func (.func 92) #[] #[]]) (by simp [results, Try.results53, go_sem]) rfl (kind_end _ (by decide) (by decide) (by repeat (first | exact Below.refl _ _ | refine bal ?_ _ | refine bset ?_ _ _ (by simp) | refine Below.drew ?_)))
  case inr.inr.inr.inr.inr.inr.inr.inr.inl =>
    go_simp
    go_wp2
    exact bodyPost_ret (v := .agg #[.func (.func 96) #[] #[], .func (.func 92) #[] #[]]) (by simp [results, Try.results53, go_sem]) rfl (kind_end _ (by decide) (by decide) (by repeat (first | exact Below.refl _ _ | refine bal ?_ _ | refine bset ?_ _ _ (by simp) | refine Below.drew ?_)))
  case inr.inr.inr.inr.inr.inr.inr.inr.inr.inl =>
    go_simp
    go_wp2
    exact bodyPost_ret (v := .agg #[.func (.func 97) #[] #[], .func (.func 93) #[] #[]]) (by simp [results, Try.results53, go_sem]) rfl (kind_end _ (by decide) (by decide) (by repeat (first | exact Below.refl _ _ | refine bal ?_ _ | refine bset ?_ _ _ (by simp) | refine Below.drew ?_)))
  case inr.inr.inr.inr.inr.inr.inr.inr.inr.inr.inl =>
    go_simp
    go_wp2
    exact bodyPost_ret (v := .agg #[.func (.func 95) #[] #[], .func (.func 99) #[] #[]]) (by simp [results, Try.results53, go_sem]) rfl (kind_end _ (by decide) (by decide) (by repeat (first | exact Below.refl _ _ | refine bal ?_ _ | refine bset ?_ _ _ (by simp) | refine Below.drew ?_)))
  case inr.inr.inr.inr.inr.inr.inr.inr.inr.inr.inr.inl =>
    go_simp
    go_wp2
    exact bodyPost_ret (v := .agg #[.func (.func 92) #[] #[], .func (.func 93) #[] #[]]) (by simp [results, Try.results53, go_sem]) rfl (kind_end _ (by decide) (by decide) (by repeat (first | exact Below.refl _ _ | refine bal ?_ _ | refine bset ?_ _ _ (by simp) | refine Below.drew ?_)))
  case inr.inr.inr.inr.inr.inr.inr.inr.inr.inr.inr.inr.inl =>
    go_simp
    go_wp2
    exact bodyPost_ret (v := .agg #[.func (.func 94) #[] #[], .func (.func 92) #[] #[]]) (by simp [results, Try.results53, go_sem]) rfl (kind_end _ (by decide) (by decide) (by repeat (first | exact Below.refl _ _ | refine bal ?_ _ | refine bset ?_ _ _ (by simp) | refine Below.drew ?_)))
  case inr.inr.inr.inr.inr.inr.inr.inr.inr.inr.inr.inr.inr.inl =>
    have e1 := Lib.hid (show 95 = tkOf op by unfold tkOf; repeat (first | rfl | rw [if_pos (by omega)] | rw [if_neg (by omega)]))
    have e2 := Lib.hid (show 93 = mkOf op by unfold mkOf; repeat (first | rfl | rw [if_pos (by omega)] | rw [if_neg (by omega)]))
    have n1 : ¬ (op = 1) := by omega
    have n2 : ¬ (op = 2) := by omega
    have n3 : ¬ (op = 3) := by omega
    have n4 : ¬ (op = 4) := by omega
    have n23 : ¬ (op = 23) := by omega
    have n24 : ¬ (op = 24) := by omega
    have n25 : ¬ (op = 25) := by omega
    have n26 : ¬ (op = 26) := by omega
    have n27 : ¬ (op = 27) := by omega
    have n28 : ¬ (op = 28) := by omega
    have n29 : ¬ (op = 29) := by omega
    have n30 : ¬ (op = 30) := by omega
    have n31 : ¬ (op = 31) := by omega
    have l1 : 5 ≤ op := by omega
    have l2 : op ≤ 17 := by omega
    clear hop
    go_simp
    go_wp2
    all_goals exact bodyPost_ret (v := .agg #[.func (.func 95) #[] #[], .func (.func 93) #[] #[]]) (by simp [results, Try.results53, go_sem]) rfl (kind_end _ e1.out e2.out (by repeat (first | exact Below.refl _ _ | refine bal ?_ _ | refine bset ?_ _ _ (by simp) | refine Below.drew ?_)))
  case inr.inr.inr.inr.inr.inr.inr.inr.inr.inr.inr.inr.inr.inr.inl =>
    have e1 := Lib.hid (show 94 = tkOf op by unfold tkOf; repeat (first | rfl | rw [if_pos (by omega)] | rw [if_neg (by omega)]))
    have e2 := Lib.hid (show 93 = mkOf op by unfold mkOf; repeat (first | rfl | rw [if_pos (by omega)] | rw [if_neg (by omega)]))
    have n1 : ¬ (op = 1) := by omega
    have n2 : ¬ (op = 2) := by omega
    have n3 : ¬ (op = 3) := by omega
    have n4 : ¬ (op = 4) := by omega
    have n23 : ¬ (op = 23) := by omega
    have n24 : ¬ (op = 24) := by omega
    have n25 : ¬ (op = 25) := by omega
    have n26 : ¬ (op = 26) := by omega
    have n27 : ¬ (op = 27) := by omega
    have n28 : ¬ (op = 28) := by omega
    have n29 : ¬ (op = 29) := by omega
    have n30 : ¬ (op = 30) := by omega
    have n31 : ¬ (op = 31) := by omega
    have l1 : 18 ≤ op := by omega
    have l2 : op ≤ 22 := by omega
    clear hop
    go_simp
    go_wp2
    all_goals exact bodyPost_ret (v := .agg #[.func (.func 94) #[] #[], .func (.func 93) #[] #[]]) (by simp [results, Try.results53, go_sem]) rfl (kind_end _ e1.out e2.out (by repeat (first | exact Below.refl _ _ | refine bal ?_ _ | refine bset ?_ _ _ (by simp) | refine Below.drew ?_)))
  case inr.inr.inr.inr.inr.inr.inr.inr.inr.inr.inr.inr.inr.inr.inr =>
    have e1 := Lib.hid (show 92 = tkOf op by unfold tkOf; repeat (first | rfl | rw [if_pos (by omega)] | rw [if_neg (by omega)]))
    have e2 := Lib.hid (show 92 = mkOf op by unfold mkOf; repeat (first | rfl | rw [if_pos (by omega)] | rw [if_neg (by omega)]))
    have n1 : ¬ (op = 1) := by omega
    have n2 : ¬ (op = 2) := by omega
    have n3 : ¬ (op = 3) := by omega
    have n4 : ¬ (op = 4) := by omega
    have n23 : ¬ (op = 23) := by omega
    have n24 : ¬ (op = 24) := by omega
    have n25 : ¬ (op = 25) := by omega
    have n26 : ¬ (op = 26) := by omega
    have n27 : ¬ (op = 27) := by omega
    have n28 : ¬ (op = 28) := by omega
    have n29 : ¬ (op = 29) := by omega
    have n30 : ¬ (op = 30) := by omega
    have n31 : ¬ (op = 31) := by omega
    go_simp
    go_wp2
    all_goals exact bodyPost_ret (v := .agg #[.func (.func 92) #[] #[], .func (.func 92) #[] #[]]) (by simp [results, Try.results53, go_sem]) rfl (kind_end _ e1.out e2.out (by repeat (first | exact Below.refl _ _ | refine bal ?_ _ | refine bset ?_ _ _ (by simp) | refine Below.drew ?_)))
end Go.Proofs.Ytjlehpgfhlkjlaa
