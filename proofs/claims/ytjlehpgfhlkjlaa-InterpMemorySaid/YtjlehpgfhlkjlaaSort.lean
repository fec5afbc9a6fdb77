/-
  slices.Sort, Reverse and Compact at the call's own rows of whole numbers.
-/
import Derived.Test.YtjlehpgfhlkjlaaShelf
import Derived.Test.YtjlehpgfhlkjlaaOwn
import Derived.Sort.OwnSortedInts
import Derived.Lib.RowBridge
set_option linter.all false
namespace Jq
open Go Go.RowKit
theorem own_parts {T : TypeId} {B : Nat} {w : World} {s : Sl Int} (h : Own kI T B w s) : (s.A = none ∧ s.cap = 0 ∧ s.l = []) ∨ ∃ g cur, s.A = some ⟨g, 0, none⟩ ∧ B ≤ g ∧ w.heap[g]? = some (.cells cur T (0, 0)) ∧ s.l.length ≤ s.cap ∧ s.cap ≤ maxLen ∧ cur.size = s.cap * 1 ∧ cur.toList.take s.l.length = s.l.map (.int .i64) := by
  rcases h.row.2 with ⟨h1, h2⟩ | ⟨g, cap, cur, hv, hb, hh, h1, h2, h3, h4⟩
  · simp only [Sl.val, Value.slice.injEq] at h1
    exact Or.inl ⟨h1.1, h1.2.2, List.length_eq_zero_iff.1 h2⟩
  · simp only [Sl.val, Value.slice.injEq] at hv
    obtain ⟨hA, _, hc⟩ := hv
    refine Or.inr ⟨g, cur, hA, hb, hh, by omega, by omega, by rw [h3, hc]; rfl, ?_⟩
    have e1 : s.l.flatMap kI.cs = s.l.map (.int .i64) := by
      generalize s.l = l
      induction l with
      | nil => rfl
      | cons x l ih => rw [List.flatMap_cons, ih]; rfl
    rw [← e1, ← h4]
    show _ = cur.toList.take (s.l.length * 1)
    rw [Nat.mul_one]
theorem own_of {T : TypeId} {B : Nat} {w : World} {s : Sl Int} (h : s.l.length ≤ 140737488355328) (hr : w.ownsRow B T 1 s.val s.l.length (s.l.map (.int .i64))) : Own kI T B w s := by
  refine ⟨?_, h, fun _ _ => trivial, fun _ _ k hk => absurd hk (by simp [kI, Kd.scalar])⟩
  have e1 : s.l.flatMap kI.cs = s.l.map (.int .i64) := by
    generalize s.l = l
    induction l with
    | nil => rfl
    | cons x l ih => rw [List.flatMap_cons, ih]; rfl
  rw [e1]
  exact hr
end Jq
namespace Go.Proofs.Ytjlehpgfhlkjlaa
open Go.RowKit Jq Go.Sort
set_option linter.unusedVariables false
/-- 'slices.Sort' of an own row. -/
theorem own_sort (s : Sl Int) (B : Nat) (w : World) (h : Own kI 3 B w s) :
    Calls Try.prog 158 #[s.val] w fun e w' => e = .returned (.tuple #[]) ∧ ∃ s' : Sl Int, s'.val = s.val ∧ s'.l = s.l.mergeSort (fun x y => decide (x ≤ y)) ∧ Own kI 3 B w' s' ∧ w.grownBy w' s.val.ownBlock := by
  obtain ⟨A, cap, l⟩ := s
  rcases own_parts h with ⟨h1, h2, h3⟩ | ⟨g, cur, hA, hb, hh, h1, h2, h3, h4⟩
  · simp only at h1 h2 h3
    subst h1 h2 h3
    refine (slices_Sort_int_none none 0 w).mono ?_
    rintro e w' ⟨rfl, rfl⟩
    exact ⟨rfl, nilSl, rfl, by simp, Own.nil _ _ _ _, ⟨rfl, rfl, rfl, Nat.le_refl _, fun _ _ _ => rfl⟩⟩
  · simp only at hA
    subst hA
    simp only at h1 h2 h3 h4
    have hsh := h.short
    refine (slices_Sort_int g 0 cap l w (holds_of_blockI hh h4) (lt_of_block hh) (by simp only at hsh; omega)).mono ?_
    rintro e w' ⟨rfl, n, os, rfl⟩
    refine ⟨rfl, ⟨some ⟨g, 0, none⟩, cap, l.mergeSort (fun x y => decide (x ≤ y))⟩, by simp [Sl.val], rfl, own_of (by simpa using hsh) ?_, grownBy_sortedI _⟩
    have hr := ownsRow_sortedI (ts := l.mergeSort (fun x y => decide (x ≤ y))) (n := n) (os := os) (by simp) hb hh h1 h2 h3
    simp only [Sl.val, List.length_mergeSort]
    exact hr
/-- 'slices.Reverse' of an own row. -/
theorem own_reverse (s : Sl Int) (B : Nat) (w : World) (h : Own kI 3 B w s) :
    Calls Try.prog 154 #[s.val] w fun e w' => e = .returned (.tuple #[]) ∧ ∃ s' : Sl Int, s'.val = s.val ∧ s'.l = s.l.reverse ∧ Own kI 3 B w' s' ∧ w.grownBy w' s.val.ownBlock := by
  obtain ⟨A, cap, l⟩ := s
  rcases own_parts h with ⟨h1, h2, h3⟩ | ⟨g, cur, hA, hb, hh, h1, h2, h3, h4⟩
  · simp only at h1 h2 h3
    subst h1 h2 h3
    refine (slices_Reverse_int_empty none 0 w).mono ?_
    rintro e w' ⟨rfl, rfl⟩
    exact ⟨rfl, nilSl, rfl, by simp, Own.nil _ _ _ _, ⟨rfl, rfl, rfl, Nat.le_refl _, fun _ _ _ => rfl⟩⟩
  · simp only at hA
    subst hA
    simp only at h1 h2 h3 h4
    have hsh := h.short
    refine (slices_Reverse_int g 0 cap l w (holds_of_blockI hh h4) (by simp only at hsh; omega)).mono ?_
    rintro e w' ⟨rfl, n, rfl⟩
    rw [← grow_empty (putRow _ _ _ _ _)]
    refine ⟨rfl, ⟨some ⟨g, 0, none⟩, cap, l.reverse⟩, by simp [Sl.val], rfl, own_of (by simpa using hsh) ?_, grownBy_sortedI _⟩
    have hr := ownsRow_sortedI (ts := l.reverse) (n := n) (os := #[]) (by simp) hb hh h1 h2 h3
    simp only [Sl.val, List.length_reverse]
    exact hr
theorem row_cut {w : World} {B n m cap g : Nat} {T : TypeId} {xs : List Value} (h : w.ownsRow B T 1 (.slice (some ⟨g, 0, none⟩) n cap) n xs) (hm : m ≤ n) : w.ownsRow B T 1 (.slice (some ⟨g, 0, none⟩) m cap) m (xs.take m) := by
  obtain ⟨h1, h2⟩ := h
  refine ⟨by rw [List.length_take, h1]; omega, ?_⟩
  rcases h2 with ⟨h0, _⟩ | ⟨g', cap', cur, hv, hg, hh, hn, hc, hs, ht⟩
  · cases h0
  · cases hv
    refine Or.inr ⟨g, cap, cur, rfl, hg, hh, by omega, hc, hs, ?_⟩
    rw [← ht, List.take_take]
    congr 1
    omega
/-- 'slices.Compact' of an own row. -/
theorem own_compact (s : Sl Int) (B : Nat) (w : World) (h : Own kI 3 B w s) :
    Calls Try.prog 159 #[s.val] w fun e w' => ∃ s' : Sl Int, e = .returned s'.val ∧ s'.l = Lib.compact s.l ∧ Own kI 3 B w' s' ∧ w.grownBy w' s.val.ownBlock := by
  obtain ⟨A, cap, l⟩ := s
  rcases own_parts h with ⟨h1, h2, h3⟩ | ⟨g, cur, hA, hb, hh, h1, h2, h3, h4⟩
  · simp only at h1 h2 h3
    subst h1 h2 h3
    refine (slices_Compact_int_empty none 0 w).mono ?_
    rintro e w' ⟨rfl, rfl⟩
    exact ⟨nilSl, rfl, rfl, Own.nil _ _ _ _, ⟨rfl, rfl, rfl, Nat.le_refl _, fun _ _ _ => rfl⟩⟩
  · simp only at hA
    subst hA
    simp only at h1 h2 h3 h4
    have hsh := h.short
    have hcl : (Lib.compact l).length ≤ l.length := Lib.compact_length_le l
    refine (slices_Compact_int g 0 cap l w (holds_of_blockI hh h4) (by simp only at hsh; omega) h1).mono ?_
    rintro e w' ⟨rfl, n, rfl⟩
    rw [← grow_empty (putRow _ _ _ _ _)]
    refine ⟨⟨some ⟨g, 0, none⟩, cap, Lib.compact l⟩, rfl, rfl, own_of (by simp only at hsh ⊢; omega) ?_, grownBy_sortedI _⟩
    have hr := row_cut (ownsRow_sortedI (ts := Lib.compact l ++ List.replicate (l.length - (Lib.compact l).length) 0) (n := n) (os := #[]) (by simp; omega) hb hh h1 h2 h3) hcl
    rw [← List.map_take, List.take_left] at hr
    exact hr
end Go.Proofs.Ytjlehpgfhlkjlaa
