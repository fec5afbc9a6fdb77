/-
  Rows of rows: a new row is stored in its place. No program in sight.
-/
import Derived.Test.YtjlehpgfhlkjlaaOwn2
set_option linter.all false
namespace Jq
open Go Go.RowKit
/-- A new row (made from w on, in w1) is stored in its place. -/
theorem Own2.put2 {e2 e : TypeId} {base : Nat} {w : World} {s : Sl (Sl Int)} (h : Own2 e2 e base w s) (hne : e2 ≠ e) {k : Nat} (hk : k < s.l.length) {w1 : World} {t : Sl Int} (ht : Own kI e w.heap.size w1 t) (hg : Below w.heap.size w w1) (hbw : base ≤ w.heap.size) :
    ∃ g, s.A = some ⟨g, 0, none⟩ ∧ base ≤ g ∧ g < w1.heap.size ∧ w1.cell? ⟨g, k, none⟩ = some s.l[k].val ∧ w1.frozen? ⟨g, k, none⟩ = false ∧ s.val.ownBlock = some g ∧
      Own2 e2 e base (w1.setCell ⟨g, k, none⟩ t.val) ⟨s.A, s.cap, s.l.set k t⟩ := by
  have hkm : s.l[k] ∈ s.l := List.getElem_mem hk
  have hr0 := h.outer.row
  rw [flat_c (d := kI.sl) (c := Sl.val) (fun _ => rfl)] at hr0
  rcases hr0.2 with ⟨h1, h2⟩ | ⟨g, cap, cur, hv, hb, hh, h1, h2, h3, h4⟩
  · omega
  have hv' := hv
  simp only [Sl.val, Value.slice.injEq] at hv'
  obtain ⟨hA, _, hcap⟩ := hv'
  have hob : s.val.ownBlock = some g := by rw [hv]; rfl
  have hlt : g < w.heap.size := (Array.getElem?_eq_some_iff.1 hh).1
  have hne1 : ∀ x, x ∈ s.l → x.val.ownBlock ≠ some g := fun x hx => h.ne_outer hne hx g hob
  have hh1 : w1.heap[g]? = some (.cells cur e2 (0, 0)) := (hg.block g hlt).trans hh
  have hr : w1.ownsRow base e2 1 (.slice (some ⟨g, 0, none⟩) s.l.length cap) s.l.length (s.l.map Sl.val) := ⟨hr0.1, .inr ⟨g, cap, cur, rfl, hb, hh1, h1, h2, h3, h4⟩⟩
  have htne : t.val.ownBlock ≠ some g := by
    intro e1
    have := ht.ge g e1.symm
    omega
  -- every row of the new list
  have hel : ∀ j (hj : j < (s.l.set k t).length), Own kI e base (w1.setCell ⟨g, k, none⟩ t.val) (s.l.set k t)[j] ∧ (s.l.set k t)[j].val.ownBlock ≠ some g := by
    intro j hj
    have hj' : j < s.l.length := by simpa using hj
    by_cases hjk : k = j
    · subst hjk
      rw [List.getElem_set_self]
      refine ⟨(ht.lower hbw).mv fun q hq => Below.heap_setCell _ _ _ _ ?_, htne⟩
      rcases hq with hq | ⟨x, _, hq⟩
      · intro e1
        exact htne (by rw [← hq]; exact congrArg some e1)
      · simp [kI, Kd.scalar] at hq
    · rw [List.getElem_set_ne hjk]
      have hm : s.l[j] ∈ s.l := List.getElem_mem hj'
      refine ⟨((h.inner _ hm).mv (w' := w1) fun q hq => ?_).mv fun q hq => Below.heap_setCell _ _ _ _ ?_, hne1 _ hm⟩
      · rcases hq with hq | ⟨x, _, hq⟩
        · exact hg.block q ((h.inner _ hm).row.lt q hq.symm).2
        · simp [kI, Kd.scalar] at hq
      · rcases hq with hq | ⟨x, _, hq⟩
        · intro e1
          exact hne1 _ hm (by rw [← hq]; exact congrArg some e1)
        · simp [kI, Kd.scalar] at hq
  have hin : ∀ x, x ∈ s.l.set k t → Own kI e base (w1.setCell ⟨g, k, none⟩ t.val) x ∧ x.val.ownBlock ≠ some g := by
    intro x hx
    obtain ⟨j, hj, rfl⟩ := List.mem_iff_getElem.1 hx
    exact hel j hj
  refine ⟨g, hA, hb, (Array.getElem?_eq_some_iff.1 hh1).1, ?_, hr.frozenAt k, hob, ⟨⟨?_, by simpa using h.outer.short, fun x hx => (hin x hx).1.rd, ?_⟩, fun x hx => (hin x hx).1, ?_⟩⟩
  · rw [hr.cellAt k (by omega)]
    simp [hk]
  · have hst := hr.stored k t.val
    rw [flat_c (d := kI.sl) (c := Sl.val) (fun _ => rfl)]
    simp only [Sl.val, List.length_set, List.map_set] at hst ⊢
    rw [hA, hcap]
    exact hst.1
  · intro x hx q hq e1
    have e3 : (⟨s.A, s.cap, s.l.set k t⟩ : Sl (Sl Int)).val.ownBlock = some g := by simp [Sl.val, hA, Value.ownBlock]
    rw [e3] at e1
    exact (hin x hx).2 (by rw [← fpI hq]; exact e1)
  · intro i j hi hj hij
    have hi' : i < s.l.length := by simpa using hi
    have hj' : j < s.l.length := by simpa using hj
    have tp : ∀ j (hj' : j < s.l.length), k ≠ j → t.val.ownBlock = none ∨ t.val.ownBlock ≠ s.l[j].val.ownBlock := by
      intro j hj' hkj
      cases hto : t.val.ownBlock with
      | none => exact .inl rfl
      | some q =>
        right
        intro e1
        have h1 := ((h.inner _ (List.getElem_mem hj')).row.lt _ e1.symm).2
        have h2 := ht.ge q hto.symm
        omega
    show (s.l.set k t)[i].val.ownBlock = none ∨ (s.l.set k t)[i].val.ownBlock ≠ (s.l.set k t)[j].val.ownBlock
    by_cases hki : k = i
    · subst hki
      rw [List.getElem_set_self, List.getElem_set_ne hij]
      exact tp j hj' hij
    · rw [List.getElem_set_ne hki]
      by_cases hkj : k = j
      · subst hkj
        rw [List.getElem_set_self]
        rcases tp i hi' hki with hp | hp
        · by_cases hn : s.l[i].val.ownBlock = none
          · exact .inl hn
          · right; rw [hp]; exact hn
        · exact .inr (Ne.symm hp)
      · rw [List.getElem_set_ne hkj]
        exact h.pair i j hi' hj' hij
end Jq
