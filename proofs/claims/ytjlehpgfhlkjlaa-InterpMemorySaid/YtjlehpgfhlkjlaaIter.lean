/-
  'for k, v := range m' over a map whose entries are known: the order is the tape's. No program in sight.
-/
import Derived.Test.YtjlehpgfhlkjlaaInt1
import Derived.Maps.RangeWalk
set_option linter.all false
namespace Jq
open Go Go.RowKit Go.MapKept Go.ChangeMaps
theorem ents_mem (q : IntKind) : ∀ (l : List (Int × Value)) (i : Nat) (e : MapEntry), e ∈ ents q i l → ∃ (j : Nat) (h : j < l.length), e = { key := .int q l[j].1, val := l[j].2, born := i + j }
  | [], _, e, h => by simp [ents] at h
  | (k, v) :: l, i, e, h => by
    rw [ents, List.mem_cons] at h
    rcases h with rfl | h
    · exact ⟨0, by simp, rfl⟩
    · obtain ⟨j, hj, rfl⟩ := ents_mem q l (i + 1) e h
      refine ⟨j + 1, by simp; omega, ?_⟩
      simp only [List.getElem_cons_succ, MapEntry.mk.injEq, true_and]
      omega
theorem ents_has (q : IntKind) (l : List (Int × Value)) (i j : Nat) (h : j < l.length) : ({ key := .int q l[j].1, val := l[j].2, born := i + j } : MapEntry) ∈ ents q i l :=
  List.mem_of_getElem? (ents_get q l i j h)
theorem ents_born (q : IntKind) : ∀ (l : List (Int × Value)) (i : Nat), (ents q i l).map (·.born) = List.range' i l.length
  | [], _ => rfl
  | (k, v) :: l, i => by rw [ents, List.map_cons, ents_born q l (i + 1), List.length_cons, List.range'_succ]
/-- An iterator in block r over the map in block b: which entries have come. -/
structure Itr (w : World) (r b : Nat) (n : List (Int × Int)) (seen : List Nat) : Prop where
  map : w.heap[b]? = some (mapObj .i64 (n.map vE))
  it : ∃ sn c0, w.heap[r]? = some (.mapIter (some b) n.length sn c0) ∧ sn.toList = seen ∧ n.length ≤ c0
theorem Itr.mv {w w1 : World} {r b : Nat} {n : List (Int × Int)} {seen : List Nat} (h : Itr w r b n seen) (hb : w1.heap[b]? = w.heap[b]?) (hr : w1.heap[r]? = w.heap[r]?) : Itr w1 r b n seen := by
  obtain ⟨sn, c0, h1, h2, h3⟩ := h.it
  exact ⟨hb.trans h.map, sn, c0, hr.trans h1, h2, h3⟩
/-- How many entries are still to come. -/
def leftN (n : List (Int × Int)) (seen : List Nat) : Nat := ((List.range n.length).filter fun i => !seen.contains i).length
theorem filter_born (q : IntKind) (p : Nat → Bool) : ∀ (l : List (Int × Value)) (i : Nat), ((ents q i l).filter fun e => p e.born).length = ((List.range' i l.length).filter p).length
  | [], _ => rfl
  | (k, v) :: l, i => by
    rw [ents, List.length_cons, List.range'_succ, List.filter_cons, List.filter_cons]
    split
    · rw [List.length_cons, List.length_cons, filter_born q p l (i + 1)]
    · exact filter_born q p l (i + 1)
section
variable {P : Program}
theorem itr_next {w : World} {r b : Nat} {n : List (Int × Int)} {seen : List Nat} (h : Itr w r b n seen) (ty : TypeId) :
    ((∀ i, i < n.length → i ∈ seen) ∧ (Instr.next (.pointer (some ⟨r, 0, none⟩)) false ty).run P w = .ok (.tuple #[.bool false]) w) ∨
    ∃ (i : Nat) (hi : i < n.length) (w' : World), i ∉ seen ∧ (Instr.next (.pointer (some ⟨r, 0, none⟩)) false ty).run P w = .ok (.tuple #[.bool true, .int .i64 n[i].1, .int .i32 n[i].2]) w' ∧ Itr w' r b n (seen ++ [i]) ∧ w.grownBy w' (some r) ∧ w'.heap.size = w.heap.size ∧ leftN n (seen ++ [i]) < leftN n seen ∧
      (Instr.entry (.pointer (some ⟨r, 0, none⟩))).run P w' = .ok (.tuple #[.int .i64 n[i].1, .int .i32 n[i].2]) w' := by
  obtain ⟨sn, c0, hr, hsn, hc0⟩ := h.it
  have hb := h.map
  unfold mapObj at hb
  have hne : r ≠ b := by
    intro e
    rw [e, hb] at hr
    cases hr
  have hl : (n.map vE).length = n.length := List.length_map ..
  have hold : ∀ x ∈ (ents .i64 0 (n.map vE)).toArray.toList, x.born < n.length := by
    intro x hx
    obtain ⟨j, hj, rfl⟩ := ents_mem .i64 (n.map vE) 0 x hx
    rw [hl] at hj
    simpa using hj
  rcases run_next_at (P := P) w ty r b n.length c0 sn (ents .i64 0 (n.map vE)).toArray (n.map vE).length hr hb hold hc0 with ⟨h0, hrun⟩ | ⟨e, he, w1, hal, hrun⟩
  · left
    refine ⟨fun i hi => ?_, hrun⟩
    have := all_seen _ sn h0 _ (ents_has .i64 (n.map vE) 0 i (by rw [hl]; exact hi))
    rw [← hsn]
    simpa using this
  · right
    obtain ⟨hem, hes⟩ := mem_left he
    obtain ⟨i, hi, rfl⟩ := ents_mem .i64 (n.map vE) 0 e hem
    rw [hl] at hi
    simp only [Nat.zero_add, List.getElem_map, vE] at hes hrun hem
    have hr1 : w1.heap[r]? = some (.mapIter (some b) n.length sn c0) := by rcases hal with rfl | rfl <;> exact hr
    have hb1 : w1.heap[b]? = some (.map (ents .i64 0 (n.map vE)).toArray (n.map vE).length) := by rcases hal with rfl | rfl <;> exact hb
    have hset := heap_set (o' := .mapIter (some b) n.length (sn.push i) (n.map vE).length) hr1
    have hb' := (hset.2 b (fun e1 => hne e1.symm)).trans hb1
    refine ⟨i, hi, _, ?_, hrun, ⟨hb', sn.push i, _, hset.1, by rw [← hsn]; simp, by rw [hl]; exact Nat.le_refl _⟩, ?_, ?_, ?_, ?_⟩
    · intro hm
      rw [← hsn] at hm
      rw [Array.contains_iff_mem.2 (by simpa using hm)] at hes
      exact absurd hes (by simp)
    · rcases hal with rfl | rfl <;> exact ⟨rfl, rfl, rfl, by simp [setBlock], fun j _ hj => hset.2 j (fun e1 => hj (by rw [e1]))⟩
    · rcases hal with rfl | rfl <;> simp [setBlock]
    · have hnot : seen.contains i = false := by
        rw [← hsn]
        simpa using hes
      unfold leftN
      have e1 : ((List.range n.length).filter fun j => !(seen ++ [i]).contains j) = ((List.range n.length).filter fun j => !seen.contains j).filter fun j => !(j == i) := by
        rw [List.filter_filter]
        congr 1
        funext j
        by_cases h1 : j = i <;> by_cases h2 : j ∈ seen <;> simp [h1, h2]
      rw [e1]
      have hmem : i ∈ (List.range n.length).filter fun j => !seen.contains j := List.mem_filter.2 ⟨List.mem_range.2 hi, by rw [hnot]; rfl⟩
      refine Nat.lt_of_le_of_ne (List.length_filter_le _ _) fun e2 => ?_
      have := List.length_filter_eq_length_iff.1 e2 i hmem
      simp at this
    · exact run_entry_at _ r b n.length sn _ _ { key := .int .i64 n[i].1, val := .int .i32 n[i].2, born := i } hset.1 hb' hem (by rw [show (ents .i64 0 (n.map vE)).toArray.toList = ents .i64 0 (n.map vE) from rfl, ents_born]; exact List.nodup_range')
variable {ops : Array Oper} {rest : List Oper} {o : Oper} {a : Act} {Q : Exit → Act → World → Prop}
/-- A range loop's step. -/
theorem wpList_next_itr (w : World) (hg : o.guard = none) (it : Operand) (hop : o.op = Op.next it false) (r b : Nat) (n : List (Int × Int)) (seen : List Nat) (hit : a.eval it = .pointer (some ⟨r, 0, none⟩)) (h : Itr w r b n seen)
    (hDone : (∀ i, i < n.length → i ∈ seen) → wpList P ops Q rest (a.put o.dst (.tuple #[.bool false])) w)
    (hMore : ∀ (i : Nat) (hi : i < n.length) (w' : World), i ∉ seen → Itr w' r b n (seen ++ [i]) → w.grownBy w' (some r) → w'.heap.size = w.heap.size → leftN n (seen ++ [i]) < leftN n seen →
      (Instr.entry (.pointer (some ⟨r, 0, none⟩))).run P w' = .ok (.tuple #[.int .i64 n[i].1, .int .i32 n[i].2]) w' → wpList P ops Q rest (a.put o.dst (.tuple #[.bool true, .int .i64 n[i].1, .int .i32 n[i].2])) w') :
    wpList P ops Q (o :: rest) a w := by
  refine wpList_plain hg fun K' hK' => ?_
  unfold Oper.wp
  rcases itr_next (P := P) h o.type with ⟨h0, hrun⟩ | ⟨i, hi, w', h1, hrun, h2, h3, h4, h5, h6⟩
  · simp [execOp, hop, hit, hrun, Result.andThen]
    exact hK' _ _ (hDone h0)
  · simp [execOp, hop, hit, hrun, Result.andThen]
    exact hK' _ _ (hMore i hi w' h1 h2 h3 h4 h5 h6)
/-- 'range m'. -/
theorem wpList_range_itr (w : World) (hg : o.guard = none) (m : Operand) (t : TypeId) (hop : o.op = Op.range t m) (k e : TypeId) (ht : P.underlying t = some (.map k e)) (b : Nat) (n : List (Int × Int)) (hm : a.eval m = .map (some b)) (hb : w.heap[b]? = some (mapObj .i64 (n.map vE)))
    (hK : ∀ w', Itr w' w.heap.size b n [] → Below w.heap.size w w' → w'.heap.size = w.heap.size + 1 → wpList P ops Q rest (a.put o.dst (.pointer (some ⟨w.heap.size, 0, none⟩))) w') : wpList P ops Q (o :: rest) a w := by
  refine wpList_plain hg fun K' hK' => ?_
  have hb0 := hb
  unfold mapObj at hb
  have hrun := run_range_map (P := P) w t k e b _ _ ht hb
  unfold Oper.wp
  simp [execOp, hop, hm, hrun, Result.andThen]
  refine hK' _ _ (hK _ ⟨?_, #[], n.length, ?_, rfl, Nat.le_refl _⟩ (bal (Below.refl _ _) _) (by simp))
  · exact ((MapKept.heap_alloc w _).2 b (lt_of_block hb0)).trans hb0
  · have := (MapKept.heap_alloc w (.mapIter (some b) (n.map vE).length #[] (n.map vE).length)).1
    rw [List.length_map] at this
    exact this
end
end Jq
