/-
  A row of whole numbers of the call's own that may begin inside its block: a queue, s = s[1:], s = append(s, x). No program in sight.
-/
import Derived.Test.YtjlehpgfhlkjlaaOwn2
import Derived.ArgAppend
set_option linter.all false
namespace Jq
open Go Go.RowKit

structure Que (e : TypeId) (base : Nat) (w : World) (s : Sl Int) : Prop where
  row : ∃ g o cur, s.A = some ⟨g, o, none⟩ ∧ base ≤ g ∧ w.heap[g]? = some (.cells cur e (0, 0)) ∧ o + s.cap ≤ cur.size ∧ ∀ j (h : j < s.l.length), cur[o + j]? = some (.int .i64 s.l[j])
  fits : s.l.length ≤ s.cap
  capl : s.cap ≤ maxLen
  short : s.l.length ≤ 140737488355328

namespace Que
variable {e : TypeId} {base : Nat} {w : World} {s : Sl Int}
theorem rd (h : Que e base w s) : kI.sl.rd w s := by
  obtain ⟨⟨g, o, cur, hA, hb, hh, hc, hx⟩, hf, _, hs⟩ := h
  refine ⟨hf, hs, fun h0 => ⟨g, o, hA, (Array.getElem?_eq_some_iff.1 hh).1, fun i hi j hj => ?_⟩, fun _ _ => trivial⟩
  simp only [kI, Kd.scalar] at hj ⊢
  obtain rfl : j = 0 := by omega
  have := hx i hi
  simp [World.cell?, hh, this]
theorem mv {w' : World} (h : Que e base w s) (hm : ∀ k, some k = s.val.ownBlock → w'.heap[k]? = w.heap[k]?) : Que e base w' s := by
  obtain ⟨⟨g, o, cur, hA, hb, hh, r⟩, hf, hc, hs⟩ := h
  exact ⟨⟨g, o, cur, hA, hb, (hm g (by simp [Sl.val, hA, Value.ownBlock])).trans hh, r⟩, hf, hc, hs⟩
theorem lt (h : Que e base w s) (k : Nat) (hk : some k = s.val.ownBlock) : base ≤ k ∧ k < w.heap.size ∧ ∃ cur, w.heap[k]? = some (.cells cur e (0, 0)) := by
  obtain ⟨⟨g, o, cur, hA, hb, hh, _⟩, _⟩ := h
  simp [Sl.val, hA, Value.ownBlock] at hk
  subst hk
  exact ⟨hb, (Array.getElem?_eq_some_iff.1 hh).1, cur, hh⟩
theorem below {w' : World} (h : Que e base w s) (hb : Below w.heap.size w w') : Que e base w' s := h.mv fun k hk => hb.block k (h.lt k hk).2.1
theorem ofLit (w : World) (l : List Int) (hb : base ≤ w.heap.size) (hn : l.length ≤ 140737488355328) : Que e base (w.alloc (.cells (l.map (.int .i64)).toArray e)) ⟨some ⟨w.heap.size, 0, none⟩, l.length, l⟩ := by
  refine ⟨⟨w.heap.size, 0, (l.map (.int .i64)).toArray, rfl, hb, heap_alloc_new w _, by simp, fun j h => by simp [h]⟩, Nat.le_refl _, by simp only [maxLen]; omega, hn⟩
/-- The row without its first element. -/
def _root_.Jq.Sl.tl (s : Sl Int) : Sl Int := ⟨if s.cap = 1 then s.A else s.A.map (·.add 1), s.cap - 1, s.l.tail⟩
theorem tl_l (s : Sl Int) : s.tl.l = s.l.tail := rfl

theorem tail (h : Que e base w s) (h1 : 1 ≤ s.l.length) : Que e base w s.tl := by
  unfold Sl.tl
  obtain ⟨⟨g, o, cur, hA, hb, hh, hc, hx⟩, hf, hcl, hs⟩ := h
  by_cases hcap : s.cap = 1
  · have hl : s.l.tail = [] := by
      have : s.l.tail.length = 0 := by rw [List.length_tail]; omega
      exact List.eq_nil_of_length_eq_zero this
    simp only [hcap, if_true]
    refine ⟨⟨g, o, cur, hA, hb, hh, by simp only [Nat.sub_self]; omega, fun j hj => ?_⟩, by simp [hl], by simp, by simp [hl]⟩
    rw [hl] at hj; simp at hj
  · simp only [hcap, if_false]
    refine ⟨⟨g, o + 1, cur, by simp [hA, Addr.add], hb, hh, by simp only []; omega, fun j hj => ?_⟩, by simp only [List.length_tail]; omega, by simp only []; omega, by simp only [List.length_tail]; omega⟩
    have hj' : j + 1 < s.l.length := by simp only [List.length_tail] at hj; omega
    have := hx (j + 1) hj'
    rw [show o + 1 + j = o + (j + 1) from by omega, this]
    congr 2
    rw [List.getElem_tail]
end Que

section
variable {P : Program} {ops : Array Oper} {rest : List Oper} {o : Oper} {a : Act} {Q : Exit → Act → World → Prop}
/-- What 's[1:]' comes to, laid ahead of a walk. -/
theorem run_tail (T e : TypeId) (hT : P.underlying T = some (.slice e)) (hsz : (P.info? e).map (·.size) = some 1) (s : Sl Int) (h1 : 1 ≤ s.l.length) (hc : s.l.length ≤ s.cap) (W : World) :
    (Instr.sliceAt T s.val (some (.int .i64 1)) none none).run P W = .ok s.tl.val W := by
  unfold Sl.tl
  obtain ⟨q, hq, hqs⟩ := Option.map_eq_some_iff.1 hsz
  have hso : (Go.sizeOf e).run P W = .ok 1 W := by simp [Go.sizeOf, typeInfo, hq, hqs]
  have hle : (1 : Int) ≤ (s.l.length : Int) := by omega
  simp [Instr.sliceAt, Instr.slice, Instr.sliceBounds, Instr.sliceBound, asIntOf, run_underlying hT, hso, Result.andThen, hle]

theorem run_appQ (base : Nat) (t ty e : TypeId) (ht : P.underlying t = some (.slice e)) (hinfo : (P.info? e).map (fun i => (i.zero, i.size, i.bytes)) = some (some (.int .i64 0), 1, 8)) (w : World) (s u : Sl Int) (x : Int) (hx : u.l = [x]) (HQ : Que e base w s) (hu : kI.sl.rd w u) (hbase : base ≤ w.heap.size)
    (hbytes : (s.l.length + 1) * 8 ≤ 140737488355328) :
    ∃ s' w', (Builtin.append_ #[t, t] ty #[s.val, u.val]).run P w = .ok s'.val w' ∧ Que e base w' s' ∧ s'.l = s.l ++ [x] ∧ w.grownBy w' s.val.ownBlock ∧ (s'.val.ownBlock = s.val.ownBlock ∨ ∃ k, s'.val.ownBlock = some k ∧ w.heap.size ≤ k) := by
  obtain ⟨i0, hi, hzz⟩ := Option.map_eq_some_iff.1 hinfo
  simp only [Prod.mk.injEq] at hzz
  obtain ⟨hz0, hz1, hz2⟩ := hzz
  obtain ⟨⟨g, o, cur, hA, hb, hh, hc, hcx⟩, hf, hcl, hs⟩ := HQ
  obtain ⟨b2, o2, hA2, hb2, hcell⟩ := hu.2.2.1 (by rw [hx]; simp)
  have hul : u.l.length = 1 := by rw [hx]; rfl
  have hv : u.val = .slice (some ⟨b2, o2, none⟩) 1 u.cap := by simp [Sl.val, hA2, hul]
  have hsv : s.val = .slice (some ⟨g, o, none⟩) s.l.length s.cap := by simp [Sl.val, hA]
  have hob : s.val.ownBlock = some g := by rw [hsv]; rfl
  have hglt : g < w.heap.size := (Array.getElem?_eq_some_iff.1 hh).1
  have hnews : ∀ j v, ([Value.int .i64 x] : List Value)[j]? = some v → w.cell? ((⟨b2, o2, none⟩ : Addr).add j) = some v := by
    intro j v hj
    match j, hj with
    | 0, hj =>
      have h0 := hcell 0 (by omega) 0 (by decide)
      simp only [hx] at h0
      simp at hj
      subst hj
      have e2 : (⟨b2, o2, none⟩ : Addr).add 0 = ⟨b2, o2, none⟩ := rfl
      rw [e2]
      simpa [kI, Kd.scalar] using h0
  by_cases hroom : s.l.length + 1 ≤ s.cap
  · have hin : o + s.l.length < cur.size := by omega
    have hcs : w.cell? ⟨g, o + s.l.length, none⟩ = some cur[o + s.l.length] := by simp [World.cell?, hh, hin]
    have hr := run_append_room_cells (P := P) w t ty e i0 ht hi g o s.l.length s.cap ⟨b2, o2, none⟩ 1 u.cap [.int .i64 x] (by simp [hz1]) hnews (by simp [Value.oneCell']) hroom
      (by intro j hj; simp at hj; subst hj; simp [hz1, hcs]) (by intro j hj; simp [World.frozen?, hh])
    have hw' : w.setCells g (o + s.l.length * i0.size) [.int .i64 x] = w.setCell ⟨g, o + s.l.length, none⟩ (.int .i64 x) := by simp [World.setCells, hz1]
    rw [hw'] at hr
    refine ⟨⟨s.A, s.cap, s.l ++ [x]⟩, w.setCell ⟨g, o + s.l.length, none⟩ (.int .i64 x), by rw [hv, hsv, hr]; simp [Sl.val, hA], ⟨⟨g, o, cur.setIfInBounds (o + s.l.length) (.int .i64 x), hA, hb, ?_, by simpa using hc, fun j hj => ?_⟩, by simp only [List.length_append, List.length_singleton]; exact hroom, hcl, by simp only [List.length_append, List.length_singleton]; omega⟩, rfl, ?_, .inl (by rw [hob]; simp [Sl.val, hA, Value.ownBlock])⟩
    · simp only [World.setCell, Array.getElem?_modify, if_true, hh, Option.map_some]
      simp
    · rw [Array.getElem?_setIfInBounds]
      by_cases hj2 : j = s.l.length
      · subst hj2
        simp [hin]
      · have hj3 : j < s.l.length := by simp at hj; omega
        rw [if_neg (by omega), hcx j hj3, List.getElem_append_left hj3]
    · refine ⟨rfl, rfl, rfl, by simp [World.setCell], fun k hk hne => Below.heap_setCell _ _ _ _ ?_⟩
      intro e1
      exact hne (by rw [hob, e1])
  · have holds : ∀ j v, (s.l.map (Value.int .i64))[j]? = some v → w.cell? ((⟨g, o, none⟩ : Addr).add j) = some v := by
      intro j v hj
      obtain ⟨hlt, he⟩ := List.getElem?_eq_some_iff.1 hj
      have hlt' : j < s.l.length := by simpa using hlt
      have e2 : (⟨g, o, none⟩ : Addr).add j = ⟨g, o + j, none⟩ := by
        unfold Addr.add
        split
        · rename_i hj0; rw [hj0]; rfl
        · rfl
      rw [e2]
      have := hcx j hlt'
      simp only [World.cell?, hh]
      simp at he
      simp [this, he]
    obtain ⟨v', w', hr, h2, h3⟩ := run_append_arg_grows (P := P) w t ty e i0 (.int .i64 0) 1 8 ht hi hz0 hz1 hz2 rfl (by decide) ⟨g, o, none⟩ s.l.length s.cap (s.l.map (.int .i64)) (by simp) holds ⟨b2, o2, none⟩ 1 u.cap [.int .i64 x] (by simp) hnews (by omega) (by simp only [maxLen]; omega) hbytes
    rcases h2.2 with ⟨h4, h5⟩ | ⟨g', cap', cur', hv', hb', hh', h5, h6, h7, h8⟩
    · omega
    · refine ⟨⟨some ⟨g', 0, none⟩, cap', s.l ++ [x]⟩, w', by rw [hv, hsv, hr, hv']; simp [Sl.val], ⟨⟨g', 0, cur', rfl, by omega, hh', by simp only []; omega, fun j hj => ?_⟩, by simp only [List.length_append, List.length_singleton]; omega, h6, by simp only [List.length_append, List.length_singleton]; omega⟩, rfl, ⟨h3.os, h3.tape, h3.output, h3.size, fun k hk _ => h3.block k hk (by simp)⟩, ?_⟩
      · have hj' : j < s.l.length + 1 := by simpa using hj
        have e1 : cur'[0 + j]? = (s.l.map (Value.int .i64) ++ [.int .i64 x])[j]? := by
          rw [← h8, List.getElem?_take_of_lt (by omega)]
          simp
        rw [e1]
        have e3 : (s.l.map (Value.int .i64) ++ [.int .i64 x]) = (s.l ++ [x]).map (Value.int .i64) := by simp
        rw [e3, List.getElem?_map]
        simp only [List.getElem?_eq_getElem hj, Option.map_some]
      · exact .inr ⟨g', rfl, hb'⟩
/-- At the operation, for a walk. -/
theorem wpList_appQ (base : Nat) (hgd : o.guard = none) (t e : TypeId) (sx ux : Operand) (ho : o.op = .call { callee := .builtin .append, args := #[sx, ux], argTypes := #[t, t] })
    (ht : P.underlying t = some (.slice e)) (hinfo : (P.info? e).map (fun i => (i.zero, i.size, i.bytes)) = some (some (.int .i64 0), 1, 8)) (w : World) (s u : Sl Int) (x : Int) (hx : u.l = [x])
    (hs : a.eval sx = s.val) (hux : a.eval ux = u.val) (HQ : Que e base w s) (hu : kI.sl.rd w u) (hbase : base ≤ w.heap.size) (hbytes : (s.l.length + 1) * 8 ≤ 140737488355328)
    (h : ∀ s' w', Que e base w' s' → s'.l = s.l ++ [x] → w.grownBy w' s.val.ownBlock → (s'.val.ownBlock = s.val.ownBlock ∨ ∃ k, s'.val.ownBlock = some k ∧ w.heap.size ≤ k) → wpList P ops Q rest (a.put o.dst s'.val) w') :
    wpList P ops Q (o :: rest) a w := by
  refine wpList_plain hgd fun K hK => ?_
  obtain ⟨s', w', hr, h2, h3, h4, h5⟩ := run_appQ (P := P) base t o.type e ht hinfo w s u x hx HQ hu hbase hbytes
  unfold Oper.wp execOp
  simp only [ho, resolve, invoke, builtin, Sem.run_bind, Sem.run_pure, Result.andThen_ok, List.map_toArray, List.map_cons, List.map_nil, hs, hux, hr]
  exact hK _ _ (h s' w' h2 h3 h4 h5)
end
end Jq
