/-
  What mach.Run holds; mach.Run$1.
-/
import Derived.Test.YtjlehpgfhlkjlaaDo
import Derived.Test.YtjlehpgfhlkjlaaPRun2
import Derived.Test.YtjlehpgfhlkjlaaQueue
import Derived.Laws.CopyOwn
set_option linter.all false
namespace Jq
open Go Go.RowKit
/-- A store into a block of cells. -/
theorem heap_set_self {w : World} {b o : Nat} {cs : List Value} {T : TypeId} {f : Nat × Nat} {v : Value} (h : w.heap[b]? = some (.cells cs.toArray T f)) : (w.setCell ⟨b, o, none⟩ v).heap[b]? = some (.cells (cs.set o v).toArray T f) := by
  have hlt := lt_of_block h
  have h' : w.heap[b] = .cells cs.toArray T f := by simpa [Array.getElem?_eq_getElem hlt] using h
  show (w.heap.modify b _)[b]? = _
  rw [Array.getElem?_eq_getElem (by simpa using hlt), Array.getElem_modify_self, h']
  simp
theorem kEvent_one : ∀ (x : Jq.Event Sl) u, u ∈ kEvent.cs x → u.oneCell' = true := by
  intro x u hu
  simp only [kEvent, List.mem_cons, List.not_mem_nil, or_false] at hu
  rcases hu with rfl | rfl
  · rfl
  · rfl
/-- A row of one event, laid as a literal. -/
theorem event_lit (W : World) (x : Jq.Event Sl) (e : Nat) (hx : kEvent.rd W x) : kEvent.sl.rd (W.alloc (.cells (kEvent.cs x).toArray e)) ⟨some ⟨W.heap.size, 0, none⟩, 1, [x]⟩ := by
  refine ⟨Nat.le_refl _, (by decide : (1 : Nat) ≤ 140737488355328), fun _ => ⟨W.heap.size, 0, rfl, by simp, fun k hk j hj => ?_⟩, fun y hy => ?_⟩
  · obtain rfl : k = 0 := by simpa using hk
    have h : (W.alloc (.cells (kEvent.cs x).toArray e)).heap[W.heap.size]? = some (.cells (kEvent.cs x).toArray e (0, 0)) := heap_alloc_new W _
    show (W.alloc (.cells (kEvent.cs x).toArray e)).cell? ⟨W.heap.size, 0 + (0 * kEvent.sz + j), none⟩ = (kEvent.cs x)[j]?
    rw [Nat.zero_mul, Nat.zero_add, Nat.zero_add]
    simp only [World.cell?, h]
    simp
  · rw [List.mem_singleton.1 hy]
    exact kEvent.below hx (bal (Below.refl _ _) _)
/-- An append to a row of one's own, as one step of a region that draws its order. -/
theorem step_app {α : Type} {P : Program} {ops : Array Oper} {o : Oper} {a : Act} {K : Act → World → Prop} {Q : Exit → Act → World → Prop} {E : Prop} (d : Kd α) (hd : 0 < d.sz) (h1 : ∀ x u, u ∈ d.cs x → u.oneCell' = true) (base : Nat) (hgd : o.guard = none) (t e : TypeId) (sx ux : Operand) (ho : o.op = .call { callee := .builtin .append, args := #[sx, ux], argTypes := #[t, t] })
    (z : Value) (bytes : Nat) (ht : P.underlying t = some (.slice e)) (hinfo : (P.info? e).map (fun i => (i.zero, i.size, i.bytes)) = some (some z, d.sz, bytes)) (hz : z.cells.size = d.sz) (hb0 : 0 < bytes) (w : World) (s u : Sl α)
    (hs : a.eval sx = s.val) (hux : a.eval ux = u.val) (HO : Own d e base w s) (hu : d.sl.rd w u) (hbase : base ≤ w.heap.size)
    (hap : ∀ x, x ∈ u.l → ∀ k, k ∈ d.fp x → some k ≠ s.val.ownBlock) (hbytes : (s.l.length + u.l.length) * bytes ≤ 140737488355328)
    (h : ∀ s' w', Own d e base w' s' → s'.l = s.l ++ u.l → w.grownBy w' s.val.ownBlock → (s'.val.ownBlock = s.val.ownBlock ∨ s'.val.ownBlock = some w.heap.size) → K (a.put o.dst s'.val) w') :
    if Region.wanted o (yielded ops a.tmps) = true then Oper.wp P o a w K Q else E := by
  have hw : Region.wanted o (yielded ops a.tmps) = true := by simp [Region.wanted, hgd]
  rw [if_pos hw]
  obtain ⟨s', w', hr, h2, h3, h4, h5⟩ := run_app (P := P) d hd h1 base t o.type e z bytes ht hinfo hz hb0 w s u HO hu hbase hap hbytes
  unfold Oper.wp execOp
  simp only [ho, resolve, invoke, builtin, Sem.run_bind, Sem.run_pure, Result.andThen_ok, List.map_toArray, List.map_cons, List.map_nil, hs, hux, hr]
  exact h _ _ h2 h3 h4 h5
theorem cons_of (l : List Int) (h : 0 < l.length) : l = l[0] :: l.tail := by
  cases l with
  | nil => simp at h
  | cons a l => rfl
/-- A row of one's own, of its block. -/
theorem own_block {α : Type} (enc : α → Value) (e : TypeId) (base : Nat) (w : World) (l : List α) (g : Nat) (hg : base ≤ g) (hh : w.heap[g]? = some (.cells (l.map enc).toArray e (0, 0))) (hn : l.length ≤ 140737488355328) :
    Own (Kd.scalar enc) e base w ⟨some ⟨g, 0, none⟩, l.length, l⟩ := by
  refine ⟨?_, hn, fun _ _ => trivial, fun _ _ k hk => by simp [Kd.scalar] at hk⟩
  have e1 : l.flatMap (Kd.scalar enc).cs = l.map enc := by
    show l.flatMap (fun x => [enc x]) = _
    rw [flat_one]
  rw [e1]
  exact ⟨by simp [Kd.scalar], .inr ⟨g, l.length, _, rfl, hg, hh, Nat.le_refl _, by simp only [maxLen]; omega, by simp [Kd.scalar], by simp only [Kd.scalar, Nat.mul_one]; exact List.take_of_length_le (by simp)⟩⟩
theorem tl_rd {s : Sl Int} {w : World} (h : kW.sl.rd w s) (h1 : 1 ≤ s.l.length) : kW.sl.rd w s.tl := by
  obtain ⟨b, o, hA, hb, hc⟩ := h.2.2.1 (by omega)
  have hcap := h.1
  have hbd := h.2.1
  unfold Sl.tl
  by_cases hc1 : s.cap = 1
  · refine ⟨?_, ?_, fun h0 => ?_, fun _ _ => trivial⟩
    · simp only [List.length_tail]; omega
    · simp only [List.length_tail]; omega
    · simp only [List.length_tail] at h0; omega
  · refine ⟨?_, ?_, fun h0 => ⟨b, o + 1, by simp [hc1, hA, Addr.add], hb, fun k hk j hj => ?_⟩, fun _ _ => trivial⟩
    · simp only [List.length_tail]; omega
    · simp only [List.length_tail]; omega
    · simp only [List.length_tail] at hk
      have h5 := hc (k + 1) (by omega) j hj
      rw [List.getElem_tail, ← h5]
      congr 2
      simp only [kW, Kd.scalar]; omega
end Jq
namespace Go.Proofs.Ytjlehpgfhlkjlaa
open Go.RowKit Jq Go.Deep
set_option linter.unusedVariables false
set_option maxRecDepth 1000000 in
set_option maxHeartbeats 800000 in
/-- 'mach.Run$1': stop. -/
theorem runStop (ob : Nat) (k v e0 v0 st : Int) (M : Sl Int) (C : Sl (Jq.Event Sl)) (w : World) (T : TypeId) (hh : w.heap[ob]? = some (.cells [.int .i64 e0, .int .i32 v0, M.val, C.val, .int .i64 st].toArray T (0, 0))) :
    Calls Try.prog 43 #[.int .i64 k, .int .i32 v, .pointer (some ⟨ob, 0, none⟩)] w fun e w' => e = .returned (.agg #[.int .i64 k, .int .i32 v, M.val, C.val, .int .i64 st]) ∧ Chg (fun k => k = ob) w w' := by
  have hlt := lt_of_block hh
  have c0 : w.cell? ⟨ob, 0, none⟩ = some (.int .i64 e0) := by simp [World.cell?, hh]
  have c1 : w.cell? ⟨ob, 1, none⟩ = some (.int .i32 v0) := by simp [World.cell?, hh]
  have c2 : w.cell? ⟨ob, 2, none⟩ = some M.val := by simp [World.cell?, hh]
  have c3 : w.cell? ⟨ob, 3, none⟩ = some C.val := by simp [World.cell?, hh]
  have c4 : w.cell? ⟨ob, 4, none⟩ = some (.int .i64 st) := by simp [World.cell?, hh]
  have f0 : w.frozen? ⟨ob, 0, none⟩ = false := by simp [World.frozen?, hh]
  have f1 : w.frozen? ⟨ob, 1, none⟩ = false := by simp [World.frozen?, hh]
  clear hh
  go_enter Try.func43, Try.ntmps43
  go_wp2_with fail
  refine bodyPost_ret (v := .agg #[.int .i64 k, .int .i32 v, M.val, C.val, .int .i64 st]) (by simp [results, Try.results43, go_sem]) rfl ⟨rfl, ?_⟩
  exact (((Chg.refl (fun q => q = ob) w).set ob 0 _ (Or.inl rfl)).set ob 1 _ (Or.inl rfl)).below (bal (Below.refl _ _) _)

/-- What stands fast while code runs: where registers, memory and the outcome lie. -/
structure RF (R M : Sl Int) (ob hb : Nat) (w : World) : Prop where
  bob : w.heap.size + 2 < ob ∧ ob < hb
  r : ∀ k, some k = R.val.ownBlock → w.heap.size + 2 < k ∧ k < hb ∧ k ≠ ob ∧ some k ≠ M.val.ownBlock
  m : ∀ k, some k = M.val.ownBlock → w.heap.size + 2 < k ∧ k < hb ∧ k ≠ ob
  rl : R.l.length = 8192
/-- What mach.Run holds. -/
structure RI (m : MFunc Sl) (x : Jq.Input Sl) (R M : Sl Int) (ob hb : Nat) (w wr : World) (s : RS) (C : Sl (Jq.Event Sl)) (A : Sl Int) : Prop where
  bm : wr.heap[w.heap.size]? = some (.cells [.int .i64 m.params, m.blocks.val].toArray 24 (0, 0))
  bi : wr.heap[w.heap.size + 1]? = some (.cells [x.args.val, x.mem.val, x.answers.val, .int .i64 x.steps].toArray 27 (0, 0))
  bt : wr.heap[w.heap.size + 2]? = some (.cells [.int .i64 0, .int .i32 0, .slice none 0 0, .slice none 0 0, .int .i64 0].toArray 33 (0, 0))
  bo : wr.heap[ob]? = some (.cells [.int .i64 0, .int .i32 0, M.val, C.val, .int .i64 s.steps].toArray 33 (0, 0))
  regs : Own kW 21 w.heap.size wr (R.wl s.regs)
  rlen : s.regs.length = R.l.length
  mem : Own kW 21 w.heap.size wr (M.wl s.mem)
  mlen : s.mem.length = M.l.length
  calls : Own kEvent 56 hb wr C
  cfp : ∀ y, y ∈ C.l → ∀ k, k ∈ kEvent.fp y → hb ≤ k
  cl : C.l.map Jq.Event.p = s.calls
  ans : kW.sl.rd w A
  al : A.l = s.answers
  below : Below w.heap.size w wr
  size : hb ≤ wr.heap.size
  cn : (s.calls.length : Int) ≤ s.steps
section
variable {m : MFunc Sl} {x : Jq.Input Sl} {R M : Sl Int} {ob hb : Nat} {w wr w1 : World} {s : RS} {C : Sl (Jq.Event Sl)} {A : Sl Int}
theorem RI.go (h : RI m x R M ob hb w wr s C A) (hw : Below wr.heap.size wr w1) : RI m x R M ob hb w w1 s C A :=
  ⟨(hw.block _ (lt_of_block h.bm)).trans h.bm, (hw.block _ (lt_of_block h.bi)).trans h.bi, (hw.block _ (lt_of_block h.bt)).trans h.bt, (hw.block _ (lt_of_block h.bo)).trans h.bo, h.regs.below hw, h.rlen, h.mem.below hw, h.mlen, h.calls.below hw, h.cfp, h.cl, h.ans, h.al, bthen h.below hw, Nat.le_trans h.size hw.size, h.cn⟩
theorem RI.apart (h : RF R M ob hb w) : R.val.ownBlock = none ∨ R.val.ownBlock ≠ M.val.ownBlock := by
  cases hr : R.val.ownBlock with
  | none => exact Or.inl rfl
  | some k => exact Or.inr (h.r k hr.symm).2.2.2
theorem kEvent_ge (h : RI m x R M ob hb w wr s C A) {k : Nat} (hk : some k = C.val.ownBlock ∨ ∃ y, y ∈ C.l ∧ k ∈ kEvent.fp y) : hb ≤ k := by
  rcases hk with hk | ⟨y, hy, hk⟩
  · exact h.calls.ge k hk
  · exact h.cfp y hy k hk
/-- Registers and memory have been written. -/
theorem RI.turn (f : RF R M ob hb w) (h : RI m x R M ob hb w wr s C A) {rl ml : List Int} (hR : Own kW 21 w.heap.size w1 (R.wl rl)) (hM : Own kW 21 w.heap.size w1 (M.wl ml)) (hr : rl.length = R.l.length) (hm : ml.length = M.l.length)
    (hc : Chg (DoF R M) wr w1) : RI m x R M ob hb w w1 { s with regs := rl, mem := ml } C A := by
  have hf : ∀ k, DoF R M k → w.heap.size + 2 < k ∧ k < hb ∧ k ≠ ob := fun k hk => by
    rcases hk with hk | hk
    · exact ⟨(f.r k hk).1, (f.r k hk).2.1, (f.r k hk).2.2.1⟩
    · exact f.m k hk
  refine ⟨(hc.block _ (lt_of_block h.bm) fun e => ?_).trans h.bm, (hc.block _ (lt_of_block h.bi) fun e => ?_).trans h.bi, (hc.block _ (lt_of_block h.bt) fun e => ?_).trans h.bt, (hc.block _ (lt_of_block h.bo) fun e => (hf _ e).2.2 rfl).trans h.bo, hR, hr, hM, hm, h.calls.mv fun k hk => ?_, h.cfp, h.cl, h.ans, h.al, ?_, Nat.le_trans h.size hc.size, h.cn⟩
  · have := (hf _ e).1; omega
  · have := (hf _ e).1; omega
  · have := (hf _ e).1; omega
  · exact hc.block k (h.calls.lt k hk) fun e => by have := hf _ e; have := kEvent_ge h hk; omega
  · refine ⟨hc.os.trans h.below.os, hc.tape.trans h.below.tape, hc.output.trans h.below.output, Nat.le_trans h.below.size hc.size, fun k hk => (hc.block k (by have := h.below.size; omega) fun e => ?_).trans (h.below.block k hk)⟩
    have := (hf _ e).1; omega
theorem RI.turnR (f : RF R M ob hb w) (h : RI m x R M ob hb w wr s C A) {rl : List Int} (hR : Own kW 21 w.heap.size w1 (R.wl rl)) (hr : rl.length = R.l.length) (hc : Chg (fun k => some k = R.val.ownBlock) wr w1) : RI m x R M ob hb w w1 { s with regs := rl } C A := by
  refine RI.turn f h hR (h.mem.mv fun k hk => ?_) hr h.mlen (hc.mono fun k hk => Or.inl hk)
  rcases hk with hk | ⟨y, _, hk⟩
  · rw [Sl.wl_val h.mlen] at hk
    exact hc.block k (h.mem.lt k (Or.inl (by rw [Sl.wl_val h.mlen]; exact hk))) fun e => (f.r k e).2.2.2 hk
  · simp [kW, Kd.scalar] at hk
/-- The outcome's cells have been written. -/
theorem RI.out (f : RF R M ob hb w) (h : RI m x R M ob hb w wr s C A) {C' : Sl (Jq.Event Sl)} {st : Int} {cl : List (Jq.Event List)} (ho : w1.heap[ob]? = some (.cells [.int .i64 0, .int .i32 0, M.val, C'.val, .int .i64 st].toArray 33 (0, 0)))
    (hc : Chg (fun k => k = ob ∨ hb ≤ k) wr w1) (hC : Own kEvent 56 hb w1 C') (hfp : ∀ y, y ∈ C'.l → ∀ k, k ∈ kEvent.fp y → hb ≤ k) (hcl : C'.l.map Jq.Event.p = cl) (hcn : (cl.length : Int) ≤ st) :
    RI m x R M ob hb w w1 { s with steps := st, calls := cl } C' A := by
  have hob := f.bob
  have hb2 : ∀ k, k < hb → k ≠ ob → k < wr.heap.size → w1.heap[k]? = wr.heap[k]? := fun k h1 h2 h3 => hc.block k h3 (by omega)
  refine ⟨(hb2 _ (by omega) (by omega) (lt_of_block h.bm)).trans h.bm, (hb2 _ (by omega) (by omega) (lt_of_block h.bi)).trans h.bi, (hb2 _ (by omega) (by omega) (lt_of_block h.bt)).trans h.bt, ho, h.regs.mv fun k hk => ?_, h.rlen, h.mem.mv fun k hk => ?_, h.mlen, hC, hfp, hcl, h.ans, h.al, ?_, Nat.le_trans h.size hc.size, hcn⟩
  · rcases hk with hk | ⟨y, _, hk⟩
    · have h3 := h.regs.lt k (Or.inl hk)
      rw [Sl.wl_val h.rlen] at hk
      have := f.r k hk
      exact hb2 k this.2.1 this.2.2.1 h3
    · simp [kW, Kd.scalar] at hk
  · rcases hk with hk | ⟨y, _, hk⟩
    · have h3 := h.mem.lt k (Or.inl hk)
      rw [Sl.wl_val h.mlen] at hk
      have := f.m k hk
      exact hb2 k this.2.1 this.2.2 h3
    · simp [kW, Kd.scalar] at hk
  · exact ⟨hc.os.trans h.below.os, hc.tape.trans h.below.tape, hc.output.trans h.below.output, Nat.le_trans h.below.size hc.size, fun k hk => (hc.block k (by have := h.below.size; omega) (by omega)).trans (h.below.block k hk)⟩
/-- A step has been counted. -/
theorem RI.step (f : RF R M ob hb w) (h : RI m x R M ob hb w wr s C A) (o : Nat) (ho : o = 4) : RI m x R M ob hb w (wr.setCell ⟨ob, o, none⟩ (.int .i64 (s.steps + 1))) s.step C A := by
  subst ho
  refine RI.out f h (C' := C) (st := s.steps + 1) (cl := s.calls) ?_ ((Chg.refl _ _).set ob 4 _ (Or.inl (Or.inl rfl))) (h.calls.mv fun k hk => ?_) h.cfp h.cl (by have := h.cn; omega)
  · have := heap_set_self (o := 4) (v := .int .i64 (s.steps + 1)) h.bo
    simpa using this
  · refine Below.heap_setCell _ _ _ _ ?_
    have := kEvent_ge h hk
    have := f.bob
    show k ≠ ob
    omega
/-- Other answers are left. -/
theorem RI.answer (h : RI m x R M ob hb w wr s C A) {A' : Sl Int} (hA : kW.sl.rd w A') : RI m x R M ob hb w wr { s with answers := A'.l } C A' :=
  ⟨h.bm, h.bi, h.bt, h.bo, h.regs, h.rlen, h.mem, h.mlen, h.calls, h.cfp, h.cl, hA, rfl, h.below, h.size, h.cn⟩
theorem fpW {s : Sl Int} {k : Nat} (hk : k ∈ kW.sl.fp s) : some k = s.val.ownBlock := by
  simp only [Kd.sl, Kd.rfp] at hk
  split at hk
  · simp at hk
  · simp [kW, Kd.scalar, Sl.blk] at hk
    obtain ⟨a, ha, rfl⟩ := hk
    simp [Sl.val, ha, Value.ownBlock]
/-- The block of a row of one's own is none of another type. -/
theorem own_ne {α : Type} {d : Kd α} {e T : TypeId} {base : Nat} {W : World} {u : Sl α} {g : Nat} {cs : Array Value} {fz : Nat × Nat} (h : Own d e base W u) (hg : W.heap[g]? = some (.cells cs T fz)) (hT : T ≠ e) : u.val.ownBlock ≠ some g := by
  intro hu
  rcases h.row.2 with ⟨h1, _⟩ | ⟨g1, c1, cu1, hv1, _, hh1, _⟩
  · rw [h1] at hu; simp [Value.ownBlock] at hu
  · rw [hv1] at hu
    simp only [Value.ownBlock, Option.some.injEq] at hu
    subst hu
    rw [hh1] at hg
    injection hg with hg
    injection hg with _ ht
    exact hT ht.symm
/-- A call is noted: w4 as its event begins, w5 as its operands are collected, w1 as the event has been appended. -/
theorem RI.call (f : RF R M ob hb w) {w5 wz : World} (h : RI m x R M ob hb w wr s C A) (hB : Below wr.heap.size wr w5) (hz : Below w5.heap.size w5 wz) (hg : wz.grownBy w1 C.val.ownBlock) {C' : Sl (Jq.Event Sl)} (hC : Own kEvent 56 hb w1 C') {v : Int} {E : Sl Int}
    (hl : C'.l = C.l ++ [⟨v, E⟩]) (hE : ∀ k, some k = E.val.ownBlock → wr.heap.size + 1 ≤ k) (hcn : (s.calls.length : Int) + 1 ≤ s.steps) (o : Nat) (ho : o = 3) :
    RI m x R M ob hb w (w1.setCell ⟨ob, o, none⟩ C'.val) { s with calls := s.calls ++ [⟨v, E.l⟩] } C' A := by
  subst ho
  have hob := f.bob
  have hrow : ∀ k, C.val.ownBlock = some k → hb ≤ k ∧ k < wr.heap.size := fun k hk => ⟨h.calls.ge k hk.symm, h.calls.lt k (Or.inl hk.symm)⟩
  have hc5 : Chg (fun k => k = ob ∨ hb ≤ k) wr wz := (Chg.of hB).below hz
  have hcg : Chg (fun k => k = ob ∨ hb ≤ k) wz w1 := ⟨hg.os, hg.tape, hg.output, hg.size, fun k hk hn => hg.block k hk fun e => hn (Or.inr (hrow k e.symm).1)⟩
  have hc1 := hc5.trans hcg
  have hfp : ∀ y, y ∈ C'.l → ∀ k, k ∈ kEvent.fp y → hb ≤ k := by
    intro y hy k hk
    rw [hl] at hy
    rcases List.mem_append.1 hy with hy | hy
    · exact h.cfp y hy k hk
    · rw [List.mem_singleton.1 hy] at hk
      have h1 := hE k (fpW hk)
      have h2 := h.size
      omega
  refine RI.out f h (C' := C') (st := s.steps) (cl := s.calls ++ [⟨v, E.l⟩]) ?_ (hc1.set ob 3 _ (Or.inl (Or.inl rfl))) (hC.mv fun k hk => ?_) hfp ?_ ?_
  · have hbo : w1.heap[ob]? = _ := (hg.block ob (Nat.lt_of_lt_of_le (Nat.lt_of_lt_of_le (lt_of_block h.bo) hB.size) hz.size) fun e => by have := (hrow ob e.symm).1; omega).trans ((hz.block _ (Nat.lt_of_lt_of_le (lt_of_block h.bo) hB.size)).trans ((hB.block _ (lt_of_block h.bo)).trans h.bo))
    have := heap_set_self (o := 3) (v := C'.val) hbo
    simpa using this
  · refine Below.heap_setCell _ _ _ _ ?_
    have : hb ≤ k := by
      rcases hk with hk | ⟨y, hy, hk⟩
      · exact hC.ge k hk
      · exact hfp y hy k hk
    show k ≠ ob
    omega
  · rw [hl, List.map_append, h.cl]
    rfl
  · simp only [List.length_append, List.length_singleton]
    omega
theorem callIns_nil {i : Mach List} {s : RS} (h : s.answers = []) : callIns i s = { s with calls := s.calls ++ [⟨i.imm, i.args.map (mget s.regs)⟩], regs := mset s.regs i.d 0 } := by
  unfold callIns
  rw [h]
  rfl
theorem callIns_cons {i : Mach List} {s : RS} {a : Int} {l : List Int} (h : s.answers = a :: l) : callIns i s = { s with calls := s.calls ++ [⟨i.imm, i.args.map (mget s.regs)⟩], regs := mset (mset s.regs i.d 0) i.d a, answers := l } := by
  unfold callIns
  rw [h]
  rfl
theorem infoEv : (Try.prog.info? 56).map (fun i => (i.zero, i.size, i.bytes)) = some (some (.agg #[.int .i32 0, .slice none 0 0]), 2, 32) := by kernel_rfl
end
end Go.Proofs.Ytjlehpgfhlkjlaa
