/-
  Stores into rows of the call's own; rows of rows. No program in sight.
  Rows of rows: a new row is stored in its place. No program in sight.
-/
import Derived.Test.YtjlehpgfhlkjlaaOwn
import Derived.Test.YtjlehpgfhlkjlaaP
set_option linter.all false
namespace Jq
open Go Go.RowKit

theorem flat_c {α : Type} {d : Kd α} {c : α → Value} (hc : ∀ x, d.cs x = [c x]) (l : List α) : l.flatMap d.cs = l.map c := by
  rw [show d.cs = fun x => [c x] from funext hc, flat_one]

namespace Own
variable {α : Type} {d : Kd α} {e : TypeId} {base : Nat} {w : World} {s : Sl α}
/-- Where an element of one cell lies, that it may be written, and what a store makes. -/
theorem spot (c : α → Value) (hsz : d.sz = 1) (hc : ∀ x, d.cs x = [c x]) (h : Own d e base w s) {k : Nat} (hk : k < s.l.length) :
    ∃ g, s.A = some ⟨g, 0, none⟩ ∧ base ≤ g ∧ g < w.heap.size ∧ w.cell? ⟨g, k, none⟩ = some (c s.l[k]) ∧ w.frozen? ⟨g, k, none⟩ = false ∧ s.val.ownBlock = some g ∧
      ∀ x, d.rd w x → (∀ q, q ∈ d.fp x → q ≠ g) → Own d e base (w.setCell ⟨g, k, none⟩ (c x)) ⟨s.A, s.cap, s.l.set k x⟩ := by
  have hr := h.row
  rw [flat_c hc, hsz] at hr
  rcases hr.2 with ⟨h1, h2⟩ | ⟨g, cap, cur, hv, hb, hh, h1, h2, h3, h4⟩
  · omega
  · have hv' := hv
    simp only [Sl.val, Value.slice.injEq] at hv'
    obtain ⟨hA, _, hcap⟩ := hv'
    have hob : s.val.ownBlock = some g := by rw [hv]; rfl
    rw [hv] at hr
    refine ⟨g, hA, hb, (Array.getElem?_eq_some_iff.1 hh).1, ?_, hr.frozenAt k, hob, fun x hx hq => ?_⟩
    · rw [hr.cellAt k (by omega)]
      simp [hk]
    · have hst := hr.stored k (c x)
      refine ⟨?_, by simpa using h.short, ?_, ?_⟩
      · rw [flat_c hc, hsz]
        simp only [Sl.val, List.length_set, List.map_set]
        rw [hA, hcap]
        exact hst.1
      · intro y hy
        rcases List.mem_or_eq_of_mem_set hy with hy | rfl
        · exact d.mv (h.elems y hy) fun q hq' => Below.heap_setCell _ _ _ _ (fun e => h.apart y hy q hq' (by rw [hob, e]))
        · exact d.mv hx fun q hq' => Below.heap_setCell _ _ _ _ (hq q hq')
      · intro y hy q hq'
        have e1 : (⟨s.A, s.cap, s.l.set k x⟩ : Sl α).val.ownBlock = some g := by simp [Sl.val, hA, Value.ownBlock]
        rw [e1]
        rcases List.mem_or_eq_of_mem_set hy with hy | rfl
        · have := h.apart y hy q hq'
          rwa [hob] at this
        · intro e2
          injection e2 with e2
          exact hq q hq' e2
end Own

/-- Rows of rows, all of the call's own, apart from each other. -/
structure Own2 (e2 e : TypeId) (base : Nat) (w : World) (s : Sl (Sl Int)) : Prop where
  outer : Own kI.sl e2 base w s
  inner : ∀ x, x ∈ s.l → Own kI e base w x
  pair : ∀ i j (hi : i < s.l.length) (hj : j < s.l.length), i ≠ j → s.l[i].val.ownBlock = none ∨ s.l[i].val.ownBlock ≠ s.l[j].val.ownBlock

theorem fpI {s : Sl Int} {k : Nat} (hk : k ∈ kI.sl.fp s) : some k = s.val.ownBlock := by
  simp only [Kd.sl, Kd.rfp] at hk
  split at hk
  · simp at hk
  · simp [kI, Kd.scalar, Sl.blk] at hk
    obtain ⟨a, ha, rfl⟩ := hk
    simp [Sl.val, ha, Value.ownBlock]

namespace Own2
variable {e2 e : TypeId} {base : Nat} {w : World} {s : Sl (Sl Int)}
theorem below {w' : World} (h : Own2 e2 e base w s) (hb : Below w.heap.size w w') : Own2 e2 e base w' s :=
  ⟨h.outer.below hb, fun x hx => (h.inner x hx).below hb, h.pair⟩
/-- The types part the outer block from the inner ones. -/
theorem ne_outer (h : Own2 e2 e base w s) (hne : e2 ≠ e) {x : Sl Int} (hx : x ∈ s.l) (g : Nat) (hg : s.val.ownBlock = some g) : x.val.ownBlock ≠ some g := by
  intro hxg
  rcases (h.inner x hx).row.2 with ⟨h1, _⟩ | ⟨g1, c1, cu1, hv1, _, hh1, _⟩
  · rw [h1] at hxg; simp [Value.ownBlock] at hxg
  rcases h.outer.row.2 with ⟨h2, _⟩ | ⟨g2, c2, cu2, hv2, _, hh2, _⟩
  · rw [h2] at hg; simp [Value.ownBlock] at hg
  rw [hv1] at hxg
  rw [hv2] at hg
  simp only [Value.ownBlock, Option.some.injEq] at hxg hg
  subst hxg
  subst hg
  rw [hh1] at hh2
  injection hh2 with hh2
  injection hh2 with _ ht
  exact hne ht.symm
/-- One row has been appended to (in w1), and is stored in its place again. -/
theorem put (h : Own2 e2 e base w s) (hne : e2 ≠ e) {k : Nat} (hk : k < s.l.length) {w1 : World} {t : Sl Int} (ht : Own kI e base w1 t) (hg : w.grownBy w1 s.l[k].val.ownBlock)
    (hat : t.val.ownBlock = s.l[k].val.ownBlock ∨ t.val.ownBlock = some w.heap.size) :
    ∃ g, s.A = some ⟨g, 0, none⟩ ∧ base ≤ g ∧ g < w1.heap.size ∧ w1.cell? ⟨g, k, none⟩ = some s.l[k].val ∧ w1.frozen? ⟨g, k, none⟩ = false ∧ s.val.ownBlock = some g ∧
      Own2 e2 e base (w1.setCell ⟨g, k, none⟩ t.val) ⟨s.A, s.cap, s.l.set k t⟩ := by
  have hkm : s.l[k] ∈ s.l := List.getElem_mem hk
  have hr0 := h.outer.row
  rw [flat_c (d := kI.sl) (c := Sl.val) (fun _ => rfl)] at hr0
  rcases hr0.2 with ⟨h1, h2⟩ | ⟨g, cap, cur, hv, hb, hh, h1, h2, h3, h4⟩
  · omega
  have hv' := hv
  simp only [Sl.val, Value.slice.injEq] at hv'
  obtain ⟨hA, _, hcap⟩ := hv'
  have hob : s.val.ownBlock = some g := by rw [hv]; rfl
  have hlt : g < w.heap.size := (Array.getElem?_eq_some_iff.1 hh).1
  have hne1 : ∀ x, x ∈ s.l → x.val.ownBlock ≠ some g := fun x hx => h.ne_outer hne hx g hob
  have hh1 : w1.heap[g]? = some (.cells cur e2 (0, 0)) := (hg.block g hlt (fun e1 => hne1 _ hkm e1.symm)).trans hh
  have hr : w1.ownsRow base e2 1 (.slice (some ⟨g, 0, none⟩) s.l.length cap) s.l.length (s.l.map Sl.val) := ⟨hr0.1, .inr ⟨g, cap, cur, rfl, hb, hh1, h1, h2, h3, h4⟩⟩
  have htne : t.val.ownBlock ≠ some g := by
    rcases hat with hat | hat <;> rw [hat]
    · exact hne1 _ hkm
    · intro e1; injection e1 with e1; omega
  -- every row of the new list
  have hel : ∀ j (hj : j < (s.l.set k t).length), Own kI e base (w1.setCell ⟨g, k, none⟩ t.val) (s.l.set k t)[j] ∧ (s.l.set k t)[j].val.ownBlock ≠ some g := by
    intro j hj
    have hj' : j < s.l.length := by simpa using hj
    by_cases hjk : k = j
    · subst hjk
      rw [List.getElem_set_self]
      refine ⟨ht.mv fun q hq => Below.heap_setCell _ _ _ _ ?_, htne⟩
      rcases hq with hq | ⟨x, _, hq⟩
      · intro e1
        exact htne (by rw [← hq]; exact congrArg some e1)
      · simp [kI, Kd.scalar] at hq
    · rw [List.getElem_set_ne hjk]
      have hm : s.l[j] ∈ s.l := List.getElem_mem hj'
      refine ⟨((h.inner _ hm).mv (w' := w1) fun q hq => ?_).mv fun q hq => Below.heap_setCell _ _ _ _ ?_, hne1 _ hm⟩
      · rcases hq with hq | ⟨x, _, hq⟩
        · refine hg.block q ((h.inner _ hm).row.lt q hq.symm).2 fun e1 => ?_
          rcases h.pair j k hj' hk (Ne.symm hjk) with hp | hp
          · rw [hp] at hq; cases hq
          · exact hp (by rw [← hq]; exact e1)
        · simp [kI, Kd.scalar] at hq
      · rcases hq with hq | ⟨x, _, hq⟩
        · intro e1
          exact hne1 _ hm (by rw [← hq]; exact congrArg some e1)
        · simp [kI, Kd.scalar] at hq
  have hin : ∀ x, x ∈ s.l.set k t → Own kI e base (w1.setCell ⟨g, k, none⟩ t.val) x ∧ x.val.ownBlock ≠ some g := by
    intro x hx
    obtain ⟨j, hj, rfl⟩ := List.mem_iff_getElem.1 hx
    exact hel j hj
  refine ⟨g, hA, hb, (Array.getElem?_eq_some_iff.1 hh1).1, ?_, hr.frozenAt k, hob, ⟨⟨?_, by simpa using h.outer.short, fun x hx => (hin x hx).1.rd, ?_⟩, fun x hx => (hin x hx).1, ?_⟩⟩
  · rw [hr.cellAt k (by omega)]
    simp [hk]
  · have hst := hr.stored k t.val
    rw [flat_c (d := kI.sl) (c := Sl.val) (fun _ => rfl)]
    simp only [Sl.val, List.length_set, List.map_set] at hst ⊢
    rw [hA, hcap]
    exact hst.1
  · intro x hx q hq e1
    have e3 : (⟨s.A, s.cap, s.l.set k t⟩ : Sl (Sl Int)).val.ownBlock = some g := by simp [Sl.val, hA, Value.ownBlock]
    rw [e3] at e1
    exact (hin x hx).2 (by rw [← fpI hq]; exact e1)
  · intro i j hi hj hij
    have hi' : i < s.l.length := by simpa using hi
    have hj' : j < s.l.length := by simpa using hj
    have tp : ∀ j (hj' : j < s.l.length), k ≠ j → t.val.ownBlock = none ∨ t.val.ownBlock ≠ s.l[j].val.ownBlock := by
      intro j hj' hkj
      rcases hat with hat | hat <;> rw [hat]
      · exact h.pair k j hk hj' hkj
      · right
        intro e1
        have := ((h.inner _ (List.getElem_mem hj')).row.lt _ e1.symm).2
        omega
    show (s.l.set k t)[i].val.ownBlock = none ∨ (s.l.set k t)[i].val.ownBlock ≠ (s.l.set k t)[j].val.ownBlock
    by_cases hki : k = i
    · subst hki
      rw [List.getElem_set_self, List.getElem_set_ne hij]
      exact tp j hj' hij
    · rw [List.getElem_set_ne hki]
      by_cases hkj : k = j
      · subst hkj
        rw [List.getElem_set_self]
        rcases tp i hi' hki with hp | hp
        · by_cases hn : s.l[i].val.ownBlock = none
          · exact .inl hn
          · right; rw [hp]; exact hn
        · exact .inr (Ne.symm hp)
      · rw [List.getElem_set_ne hkj]
        exact h.pair i j hi' hj' hij
end Own2

theorem own_made {α : Type} {d : Kd α} (c : α → Value) (hsz : d.sz = 1) (hc : ∀ x, d.cs x = [c x]) (z : α) (hz : ∀ w, d.rd w z) (hf : d.fp z = []) (e : TypeId) (base : Nat) (w : World) (n : Nat) (hb : base ≤ w.heap.size) (hn : n ≤ 140737488355328) :
    Own d e base (w.alloc (.cells (madeCells #[c z] n) e)) ⟨some ⟨w.heap.size, 0, none⟩, n, List.replicate n z⟩ := by
  refine ⟨?_, by simpa using hn, fun x hx => ?_, fun x hx k hk => ?_⟩
  · have h := World.ownsRow_lit (base := base) (e := e) (size := 1) w (madeCells #[c z] n) n hb (by simp only [maxLen]; omega) (by simp [size_madeCells])
    rw [flat_c hc, hsz]
    rw [toList_madeCells_one] at h
    simpa [Sl.val] using h
  · rw [(List.mem_replicate.1 hx).2]; exact hz _
  · rw [(List.mem_replicate.1 hx).2, hf] at hk; simp at hk
/-- A made row of nil rows. -/
theorem own2_made (e2 e : TypeId) (base : Nat) (w : World) (n : Nat) (hb : base ≤ w.heap.size) (hn : n ≤ 140737488355328) :
    Own2 e2 e base (w.alloc (.cells (madeCells #[.slice none 0 0] n) e2)) ⟨some ⟨w.heap.size, 0, none⟩, n, List.replicate n nilSl⟩ := by
  refine ⟨own_made (d := kI.sl) Sl.val rfl (fun _ => rfl) nilSl (fun w => Kd.nil_rd kI w) rfl e2 base w n hb hn, fun x hx => ?_, fun i j hi hj _ => ?_⟩
  · rw [(List.mem_replicate.1 hx).2]; exact Own.nil _ _ _ _
  · left
    simp [Sl.val, Value.ownBlock]
/-- Nothing that was there has been changed, but one block. -/
structure KeepBut (g : Nat) (w w' : World) : Prop where
  size : w.heap.size ≤ w'.heap.size
  block : ∀ k, k < w.heap.size → k ≠ g → w'.heap[k]? = w.heap[k]?
theorem KeepBut.refl (g : Nat) (w : World) : KeepBut g w w := ⟨Nat.le_refl _, fun _ _ _ => rfl⟩
theorem KeepBut.below {g : Nat} {w w1 w2 : World} (h : KeepBut g w w1) (hb : Below w1.heap.size w1 w2) : KeepBut g w w2 := ⟨Nat.le_trans h.size hb.size, fun k hk hg => (hb.block k (by have := h.size; omega)).trans (h.block k hk hg)⟩
theorem KeepBut.set {g : Nat} {w w1 : World} (h : KeepBut g w w1) (o : Nat) (u : Value) : KeepBut g w (w1.setCell ⟨g, o, none⟩ u) :=
  ⟨by simpa [World.setCell] using h.size, fun k hk hg => (Below.heap_setCell _ _ _ _ hg).trans (h.block k hk hg)⟩
/-- A row that begins at or behind w's end has been written, or there are new blocks. -/
theorem KeepBut.grown {g : Nat} {w w1 w2 : World} {row : Option Nat} (h : KeepBut g w w1) (hg : w1.grownBy w2 row) (hr : ∀ k, row = some k → w.heap.size ≤ k) : KeepBut g w w2 :=
  ⟨Nat.le_trans h.size hg.size, fun k hk hk2 => (hg.block k (by have := h.size; omega) (fun e => by have := hr k e.symm; omega)).trans (h.block k hk hk2)⟩
end Jq
set_option linter.all false
namespace Jq
open Go Go.RowKit
/-- A new row (made from w on, in w1) is stored in its place. -/
theorem Own2.put2 {e2 e : TypeId} {base : Nat} {w : World} {s : Sl (Sl Int)} (h : Own2 e2 e base w s) (hne : e2 ≠ e) {k : Nat} (hk : k < s.l.length) {w1 : World} {t : Sl Int} (ht : Own kI e w.heap.size w1 t) (hg : Below w.heap.size w w1) (hbw : base ≤ w.heap.size) :
    ∃ g, s.A = some ⟨g, 0, none⟩ ∧ base ≤ g ∧ g < w1.heap.size ∧ w1.cell? ⟨g, k, none⟩ = some s.l[k].val ∧ w1.frozen? ⟨g, k, none⟩ = false ∧ s.val.ownBlock = some g ∧
      Own2 e2 e base (w1.setCell ⟨g, k, none⟩ t.val) ⟨s.A, s.cap, s.l.set k t⟩ := by
  have hkm : s.l[k] ∈ s.l := List.getElem_mem hk
  have hr0 := h.outer.row
  rw [flat_c (d := kI.sl) (c := Sl.val) (fun _ => rfl)] at hr0
  rcases hr0.2 with ⟨h1, h2⟩ | ⟨g, cap, cur, hv, hb, hh, h1, h2, h3, h4⟩
  · omega
  have hv' := hv
  simp only [Sl.val, Value.slice.injEq] at hv'
  obtain ⟨hA, _, hcap⟩ := hv'
  have hob : s.val.ownBlock = some g := by rw [hv]; rfl
  have hlt : g < w.heap.size := (Array.getElem?_eq_some_iff.1 hh).1
  have hne1 : ∀ x, x ∈ s.l → x.val.ownBlock ≠ some g := fun x hx => h.ne_outer hne hx g hob
  have hh1 : w1.heap[g]? = some (.cells cur e2 (0, 0)) := (hg.block g hlt).trans hh
  have hr : w1.ownsRow base e2 1 (.slice (some ⟨g, 0, none⟩) s.l.length cap) s.l.length (s.l.map Sl.val) := ⟨hr0.1, .inr ⟨g, cap, cur, rfl, hb, hh1, h1, h2, h3, h4⟩⟩
  have htne : t.val.ownBlock ≠ some g := by
    intro e1
    have := ht.ge g e1.symm
    omega
  -- every row of the new list
  have hel : ∀ j (hj : j < (s.l.set k t).length), Own kI e base (w1.setCell ⟨g, k, none⟩ t.val) (s.l.set k t)[j] ∧ (s.l.set k t)[j].val.ownBlock ≠ some g := by
    intro j hj
    have hj' : j < s.l.length := by simpa using hj
    by_cases hjk : k = j
    · subst hjk
      rw [List.getElem_set_self]
      refine ⟨(ht.lower hbw).mv fun q hq => Below.heap_setCell _ _ _ _ ?_, htne⟩
      rcases hq with hq | ⟨x, _, hq⟩
      · intro e1
        exact htne (by rw [← hq]; exact congrArg some e1)
      · simp [kI, Kd.scalar] at hq
    · rw [List.getElem_set_ne hjk]
      have hm : s.l[j] ∈ s.l := List.getElem_mem hj'
      refine ⟨((h.inner _ hm).mv (w' := w1) fun q hq => ?_).mv fun q hq => Below.heap_setCell _ _ _ _ ?_, hne1 _ hm⟩
      · rcases hq with hq | ⟨x, _, hq⟩
        · exact hg.block q ((h.inner _ hm).row.lt q hq.symm).2
        · simp [kI, Kd.scalar] at hq
      · rcases hq with hq | ⟨x, _, hq⟩
        · intro e1
          exact hne1 _ hm (by rw [← hq]; exact congrArg some e1)
        · simp [kI, Kd.scalar] at hq
  have hin : ∀ x, x ∈ s.l.set k t → Own kI e base (w1.setCell ⟨g, k, none⟩ t.val) x ∧ x.val.ownBlock ≠ some g := by
    intro x hx
    obtain ⟨j, hj, rfl⟩ := List.mem_iff_getElem.1 hx
    exact hel j hj
  refine ⟨g, hA, hb, (Array.getElem?_eq_some_iff.1 hh1).1, ?_, hr.frozenAt k, hob, ⟨⟨?_, by simpa using h.outer.short, fun x hx => (hin x hx).1.rd, ?_⟩, fun x hx => (hin x hx).1, ?_⟩⟩
  · rw [hr.cellAt k (by omega)]
    simp [hk]
  · have hst := hr.stored k t.val
    rw [flat_c (d := kI.sl) (c := Sl.val) (fun _ => rfl)]
    simp only [Sl.val, List.length_set, List.map_set] at hst ⊢
    rw [hA, hcap]
    exact hst.1
  · intro x hx q hq e1
    have e3 : (⟨s.A, s.cap, s.l.set k t⟩ : Sl (Sl Int)).val.ownBlock = some g := by simp [Sl.val, hA, Value.ownBlock]
    rw [e3] at e1
    exact (hin x hx).2 (by rw [← fpI hq]; exact e1)
  · intro i j hi hj hij
    have hi' : i < s.l.length := by simpa using hi
    have hj' : j < s.l.length := by simpa using hj
    have tp : ∀ j (hj' : j < s.l.length), k ≠ j → t.val.ownBlock = none ∨ t.val.ownBlock ≠ s.l[j].val.ownBlock := by
      intro j hj' hkj
      cases hto : t.val.ownBlock with
      | none => exact .inl rfl
      | some q =>
        right
        intro e1
        have h1 := ((h.inner _ (List.getElem_mem hj')).row.lt _ e1.symm).2
        have h2 := ht.ge q hto.symm
        omega
    show (s.l.set k t)[i].val.ownBlock = none ∨ (s.l.set k t)[i].val.ownBlock ≠ (s.l.set k t)[j].val.ownBlock
    by_cases hki : k = i
    · subst hki
      rw [List.getElem_set_self, List.getElem_set_ne hij]
      exact tp j hj' hij
    · rw [List.getElem_set_ne hki]
      by_cases hkj : k = j
      · subst hkj
        rw [List.getElem_set_self]
        rcases tp i hi' hki with hp | hp
        · by_cases hn : s.l[i].val.ownBlock = none
          · exact .inl hn
          · right; rw [hp]; exact hn
        · exact .inr (Ne.symm hp)
      · rw [List.getElem_set_ne hkj]
        exact h.pair i j hi' hj' hij
end Jq
