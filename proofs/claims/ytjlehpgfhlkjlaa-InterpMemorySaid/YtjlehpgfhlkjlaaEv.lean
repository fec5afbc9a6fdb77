/-
  Laws that mach and interp share: events laid, a row's first elements, loads and stores of words.
-/
import Derived.Test.YtjlehpgfhlkjlaaQueue
import Derived.Test.YtjlehpgfhlkjlaaPRun
import Derived.Test.YtjlehpgfhlkjlaaClone
import Derived.Laws.CopyOwn
import Derived.Lib.Hide
import Derived.Deep.LoopGhost
import Derived.Deep.DeepMust
import Derived.Deep.OwnRows
import Derived.Deep.QuietTactic
import Derived.BigQuiet
import Derived.Deep.RegionHeld3
import Derived.StillTailTactics
set_option linter.all false
namespace Jq
open Go Go.RowKit
def Sl.tk {α : Type} (s : Sl α) (i : Nat) : Sl α := ⟨s.A, s.cap, s.l.take i⟩
theorem run_take {α : Type} {P : Program} (T e : TypeId) (z : Nat) (hT : P.underlying T = some (.slice e)) (hsz : (P.info? e).map (·.size) = some z) (s : Sl α) (i : Nat) (h1 : i ≤ s.l.length) (hc : s.l.length ≤ s.cap) (W : World) :
    (Instr.sliceAt T s.val none (some (.int .i64 (i : Int))) none).run P W = .ok (s.tk i).val W := by
  unfold Sl.tk
  obtain ⟨q, hq, hqs⟩ := Option.map_eq_some_iff.1 hsz
  have hso : (Go.sizeOf e).run P W = .ok z W := by simp [Go.sizeOf, typeInfo, hq, hqs]
  have hle : (i : Int) ≤ (s.cap : Int) := by omega
  have hle2 : i ≤ s.cap := by omega
  simp [Instr.sliceAt, Instr.slice, Instr.sliceBounds, Instr.sliceBound, asIntOf, run_underlying hT, hso, Result.andThen, hle, hle2]
  rcases s with ⟨_ | A, cap, l⟩
  · simp [Sl.val] at *; omega
  · have : Option.map (fun x : Addr => x.add 0) (some A) = some A := by simp [Addr.add]
    simp [Sl.val, Addr.add] at *
    omega
theorem tk_rd {α : Type} {d : Kd α} {w : World} {s : Sl α} (h : d.sl.rd w s) (i : Nat) : d.sl.rd w (s.tk i) := by
  have hl : ∀ x, x ∈ (s.tk i).l → x ∈ s.l := fun x hx => List.mem_of_mem_take hx
  refine ⟨?_, ?_, fun h0 => ?_, fun x hx => h.2.2.2 x (hl x hx)⟩
  · have := h.1; simp only [Sl.tk, List.length_take]; omega
  · have := h.2.1; simp only [Sl.tk, List.length_take]; omega
  · simp only [Sl.tk, List.length_take] at h0
    obtain ⟨b, o, hA, hb, hc⟩ := h.2.2.1 (by omega)
    refine ⟨b, o, hA, hb, fun k hk j hj => ?_⟩
    simp only [Sl.tk, List.length_take] at hk
    rw [hc k (by omega) j hj]
    simp [Sl.tk]
/-- A store into a block of cells. -/
theorem heap_set_self {w : World} {b o : Nat} {cs : List Value} {T : TypeId} {f : Nat × Nat} {v : Value} (h : w.heap[b]? = some (.cells cs.toArray T f)) : (w.setCell ⟨b, o, none⟩ v).heap[b]? = some (.cells (cs.set o v).toArray T f) := by
  have hlt := lt_of_block h
  have h' : w.heap[b] = .cells cs.toArray T f := by simpa [Array.getElem?_eq_getElem hlt] using h
  show (w.heap.modify b _)[b]? = _
  rw [Array.getElem?_eq_getElem (by simpa using hlt), Array.getElem_modify_self, h']
  simp
theorem kEvent_one : ∀ (x : Jq.Event Sl) u, u ∈ kEvent.cs x → u.oneCell' = true := by
  intro x u hu
  simp only [kEvent, List.mem_cons, List.not_mem_nil, or_false] at hu
  rcases hu with rfl | rfl
  · rfl
  · rfl
/-- A row of one event, laid as a literal. -/
theorem event_lit (W : World) (x : Jq.Event Sl) (e : Nat) (hx : kEvent.rd W x) : kEvent.sl.rd (W.alloc (.cells (kEvent.cs x).toArray e)) ⟨some ⟨W.heap.size, 0, none⟩, 1, [x]⟩ := by
  refine ⟨Nat.le_refl _, (by decide : (1 : Nat) ≤ 140737488355328), fun _ => ⟨W.heap.size, 0, rfl, by simp, fun k hk j hj => ?_⟩, fun y hy => ?_⟩
  · obtain rfl : k = 0 := by simpa using hk
    have h : (W.alloc (.cells (kEvent.cs x).toArray e)).heap[W.heap.size]? = some (.cells (kEvent.cs x).toArray e (0, 0)) := heap_alloc_new W _
    show (W.alloc (.cells (kEvent.cs x).toArray e)).cell? ⟨W.heap.size, 0 + (0 * kEvent.sz + j), none⟩ = (kEvent.cs x)[j]?
    rw [Nat.zero_mul, Nat.zero_add, Nat.zero_add]
    simp only [World.cell?, h]
    simp
  · rw [List.mem_singleton.1 hy]
    exact kEvent.below hx (bal (Below.refl _ _) _)
/-- An append to a row of one's own, as one step of a region that draws its order. -/
theorem step_app {α : Type} {P : Program} {ops : Array Oper} {o : Oper} {a : Act} {K : Act → World → Prop} {Q : Exit → Act → World → Prop} {E : Prop} (d : Kd α) (hd : 0 < d.sz) (h1 : ∀ x u, u ∈ d.cs x → u.oneCell' = true) (base : Nat) (hgd : o.guard = none) (t e : TypeId) (sx ux : Operand) (ho : o.op = .call { callee := .builtin .append, args := #[sx, ux], argTypes := #[t, t] })
    (z : Value) (bytes : Nat) (ht : P.underlying t = some (.slice e)) (hinfo : (P.info? e).map (fun i => (i.zero, i.size, i.bytes)) = some (some z, d.sz, bytes)) (hz : z.cells.size = d.sz) (hb0 : 0 < bytes) (w : World) (s u : Sl α)
    (hs : a.eval sx = s.val) (hux : a.eval ux = u.val) (HO : Own d e base w s) (hu : d.sl.rd w u) (hbase : base ≤ w.heap.size)
    (hap : ∀ x, x ∈ u.l → ∀ k, k ∈ d.fp x → some k ≠ s.val.ownBlock) (hbytes : (s.l.length + u.l.length) * bytes ≤ 140737488355328)
    (h : ∀ s' w', Own d e base w' s' → s'.l = s.l ++ u.l → w.grownBy w' s.val.ownBlock → (s'.val.ownBlock = s.val.ownBlock ∨ s'.val.ownBlock = some w.heap.size) → K (a.put o.dst s'.val) w') :
    if Region.wanted o (yielded ops a.tmps) = true then Oper.wp P o a w K Q else E := by
  have hw : Region.wanted o (yielded ops a.tmps) = true := by simp [Region.wanted, hgd]
  rw [if_pos hw]
  obtain ⟨s', w', hr, h2, h3, h4, h5⟩ := run_app (P := P) d hd h1 base t o.type e z bytes ht hinfo hz hb0 w s u HO hu hbase hap hbytes
  unfold Oper.wp execOp
  simp only [ho, resolve, invoke, builtin, Sem.run_bind, Sem.run_pure, Result.andThen_ok, List.map_toArray, List.map_cons, List.map_nil, hs, hux, hr]
  exact h _ _ h2 h3 h4 h5
theorem cons_of (l : List Int) (h : 0 < l.length) : l = l[0] :: l.tail := by
  cases l with
  | nil => simp at h
  | cons a l => rfl
/-- A row of one's own, of its block. -/
theorem own_block {α : Type} (enc : α → Value) (e : TypeId) (base : Nat) (w : World) (l : List α) (g : Nat) (hg : base ≤ g) (hh : w.heap[g]? = some (.cells (l.map enc).toArray e (0, 0))) (hn : l.length ≤ 140737488355328) :
    Own (Kd.scalar enc) e base w ⟨some ⟨g, 0, none⟩, l.length, l⟩ := by
  refine ⟨?_, hn, fun _ _ => trivial, fun _ _ k hk => by simp [Kd.scalar] at hk⟩
  have e1 : l.flatMap (Kd.scalar enc).cs = l.map enc := by
    show l.flatMap (fun x => [enc x]) = _
    rw [flat_one]
  rw [e1]
  exact ⟨by simp [Kd.scalar], .inr ⟨g, l.length, _, rfl, hg, hh, Nat.le_refl _, by simp only [maxLen]; omega, by simp [Kd.scalar], by simp only [Kd.scalar, Nat.mul_one]; exact List.take_of_length_le (by simp)⟩⟩
theorem tl_rd {s : Sl Int} {w : World} (h : kW.sl.rd w s) (h1 : 1 ≤ s.l.length) : kW.sl.rd w s.tl := by
  obtain ⟨b, o, hA, hb, hc⟩ := h.2.2.1 (by omega)
  have hcap := h.1
  have hbd := h.2.1
  unfold Sl.tl
  by_cases hc1 : s.cap = 1
  · refine ⟨?_, ?_, fun h0 => ?_, fun _ _ => trivial⟩
    · simp only [List.length_tail]; omega
    · simp only [List.length_tail]; omega
    · simp only [List.length_tail] at h0; omega
  · refine ⟨?_, ?_, fun h0 => ⟨b, o + 1, by simp [hc1, hA, Addr.add], hb, fun k hk j hj => ?_⟩, fun _ _ => trivial⟩
    · simp only [List.length_tail]; omega
    · simp only [List.length_tail]; omega
    · simp only [List.length_tail] at hk
      have h5 := hc (k + 1) (by omega) j hj
      rw [List.getElem_tail, ← h5]
      congr 2
      simp only [kW, Kd.scalar]; omega
/-- An index by a word. -/
theorem run_index32 {α : Type} {P : Program} (T e : TypeId) (hT : P.underlying T = some (.slice e)) (s : Sl α) (b o sz : Nat) (hA : s.A = some ⟨b, o, none⟩) (hsz : (P.info? e).map (·.size) = some sz) (i : Int) (k : Nat) (hi : i = k) (hk : k < s.l.length) (W : World) :
    (Instr.indexAt T s.val (.int .i32 i)).run P W = .ok (.pointer (some ⟨b, o + k * sz, none⟩)) W := by
  subst hi
  obtain ⟨q, hq, hqs⟩ := Option.map_eq_some_iff.1 hsz
  have hso : (Go.sizeOf e).run P W = .ok sz W := by simp [Go.sizeOf, typeInfo, hq, hqs]
  simp [Instr.indexAt, asIntOf, run_underlying hT, hA, Result.andThen, Sl.val]
  rw [if_pos hk, hso]
  simp only [Result.andThen, Addr.add, Int.toNat_natCast]
  split
  · rename_i h; rw [h]; rfl
  · rfl
theorem getW32 {P : Program} (T e : TypeId) (hT : P.underlying T = some (.slice e)) {w : World} {s : Sl Int} (hsz : (P.info? e).map (·.size) = some 1) (h : kW.sl.rd w s) (i : Int) {k : Nat} (hk : k < s.l.length) (hi : i = k) :
    ∃ b o, (∀ W, (Instr.indexAt T s.val (.int .i32 i)).run P W = .ok (.pointer (some ⟨b, o + k, none⟩)) W) ∧ b < w.heap.size ∧ w.cell? ⟨b, o + k, none⟩ = some (.int .i32 s.l[k]) := by
  obtain ⟨b, o, hA, hb, hc, hr⟩ := Kd.at_ h hk
  refine ⟨b, o, fun W => by have := run_index32 T e hT s b o 1 hA hsz i k hi hk W; rwa [Nat.mul_one] at this, hb, ?_⟩
  have h2 := hc 0 (by decide)
  simpa [kW, Kd.scalar] using h2
theorem wrap32_64 (n : Int) : wrap64 (wrap32 n) = wrap32 n := by unfold wrap64 wrap32; omega
/-- A word of a row of one's own has been written (or there is no such place). -/
theorem Own.setAt {T : TypeId} {base : Nat} {w : World} {s : Sl Int} (h : Own kW T base w s) (r v : Int) (hk : 0 ≤ r ∧ r < (s.l.length : Int)) :
    ∃ g, s.A = some ⟨g, 0, none⟩ ∧ base ≤ g ∧ g < w.heap.size ∧ w.cell? ⟨g, r.toNat, none⟩ = some (.int .i32 (s.l[r.toNat]'(by omega))) ∧ w.frozen? ⟨g, r.toNat, none⟩ = false ∧ s.val.ownBlock = some g ∧
      Own kW T base (w.setCell ⟨g, r.toNat, none⟩ (.int .i32 v)) (s.wl (mset s.l r v)) := by
  obtain ⟨g, h1, h2, h3, h4, h5, h6, h7⟩ := h.spot (c := fun x => .int .i32 x) rfl (fun _ => rfl) (k := r.toNat) (by omega)
  refine ⟨g, h1, h2, h3, h4, h5, h6, ?_⟩
  have := h7 v trivial (fun q hq => by simp [kW, Kd.scalar] at hq)
  rw [Sl.wl, mset, if_pos hk]
  exact this
end Jq
namespace Go.Proofs.Ytjlehpgfhlkjlaa
open Go.RowKit Jq Go.Deep
set_option linter.unusedVariables false
theorem lit_ret (w W : World) (l : List Int) (g : Nat) (hg : g = W.heap.size) (hb : Below w.heap.size w W) (hn : l.length ≤ 4) : RetSl kI 3 w l (.returned (.slice (some ⟨g, 0, none⟩) l.length l.length)) (W.alloc (.cells (l.map (.int .i64)).toArray 3)) := by
  subst hg
  exact ⟨⟨some ⟨W.heap.size, 0, none⟩, l.length, l⟩, rfl, rfl, own_lit (.int .i64) _ _ W l hb.size (by omega), bal hb _⟩
theorem nil_ret (w W : World) (hb : Below w.heap.size w W) : RetSl kI 3 w [] (.returned (.slice none 0 0)) W := ⟨nilSl, rfl, rfl, Own.nil _ _ _ _, hb⟩
theorem bdn (w : World) (n : Nat) : Below w.heap.size w (w.drewN n) := ⟨rfl, rfl, rfl, Nat.le_refl _, fun _ _ => rfl⟩
theorem infoS : (Try.prog.info? 38).map (fun i => (i.zero, i.size, i.bytes)) = some (some (.slice none 0 0), 1, 24) := by kernel_rfl
theorem infoB : (Try.prog.info? 4).map (fun i => (i.zero, i.size, i.bytes)) = some (some (.bool false), 1, 1) := by kernel_rfl
theorem mkPreds (n : Nat) (hn : n ≤ 512) : ∀ W : World, (Instr.makeSlice 146 (.int .i64 (n : Int)) (.int .i64 (n : Int))).run Try.prog W = .ok (.slice (some ⟨W.heap.size, 0, none⟩) n n) (W.alloc (.cells (madeCells #[.slice none 0 0] n) 38)) :=
  fun W => run_make_row' 146 38 (.slice none 0 0) 24 Try.underlying146 infoS rfl .i64 .i64 n (by omega) (by omega) W
theorem mkReached (n : Nat) (hn : n ≤ 512) : ∀ W : World, (Instr.makeSlice 128 (.int .i64 (n : Int)) (.int .i64 (n : Int))).run Try.prog W = .ok (.slice (some ⟨W.heap.size, 0, none⟩) n n) (W.alloc (.cells (madeCells #[.bool false] n) 4)) :=
  fun W => run_make_row' 128 4 (.bool false) 1 Try.underlying128 infoB rfl .i64 .i64 n (by omega) (by omega) W
theorem getD_l (ps : List (Sl Int)) (t : Nat) (h : t < ps.length) : (ps.map Sl.l).getD t [] = ps[t].l := by simp [List.getD_eq_getElem?_getD, h]
theorem fpW {s : Sl Int} {k : Nat} (hk : k ∈ kW.sl.fp s) : some k = s.val.ownBlock := by
  simp only [Kd.sl, Kd.rfp] at hk
  split at hk
  · simp at hk
  · simp [kW, Kd.scalar, Sl.blk] at hk
    obtain ⟨a, ha, rfl⟩ := hk
    simp [Sl.val, ha, Value.ownBlock]
/-- The block of a row of one's own is none of another type. -/
theorem own_ne {α : Type} {d : Kd α} {e T : TypeId} {base : Nat} {W : World} {u : Sl α} {g : Nat} {cs : Array Value} {fz : Nat × Nat} (h : Own d e base W u) (hg : W.heap[g]? = some (.cells cs T fz)) (hT : T ≠ e) : u.val.ownBlock ≠ some g := by
  intro hu
  rcases h.row.2 with ⟨h1, _⟩ | ⟨g1, c1, cu1, hv1, _, hh1, _⟩
  · rw [h1] at hu; simp [Value.ownBlock] at hu
  · rw [hv1] at hu
    simp only [Value.ownBlock, Option.some.injEq] at hu
    subst hu
    rw [hh1] at hg
    injection hg with hg
    injection hg with _ ht
    exact hT ht.symm
theorem infoEv : (Try.prog.info? 56).map (fun i => (i.zero, i.size, i.bytes)) = some (some (.agg #[.int .i32 0, .slice none 0 0]), 2, 32) := by kernel_rfl
theorem ldOk_iff (l : List Int) (r : Int) : ldOk l r = true ↔ 0 ≤ r ∧ r < (l.length : Int) := by unfold ldOk; rw [decide_eq_true_iff]; omega
set_option maxRecDepth 1000000 in
set_option maxHeartbeats 800000 in
/-- 'interp.Load'. -/
theorem interpLoad (s : Sl Int) (r : Int) (w : World) (hs : kW.sl.rd w s) (hr : wrap64 r = r) :
    Calls Try.prog 40 #[s.val, .int .i32 r] w fun e w' => e = .returned (.tuple #[.int .i32 (ldV s.l r), .bool (ldOk s.l r)]) ∧ w = w' := by
  have hbd := Kd.bound hs
  have hs' := Lib.hid hs
  clear hs
  by_cases h0 : r < 0
  · have e : ldOk s.l r = false := by simp [ldOk, h0]
    have e2 : ldV s.l r = 0 := by rw [ldV, e]; rfl
    rw [e, e2]
    clear e e2
    have d0 : decide (r < 0) = true := by simpa using h0
    go_enter Try.func40, Try.ntmps40
    go_wp2_with fail
    go_ret2
    exact ⟨rfl, rfl⟩
  · have d0 : decide (r < 0) = false := by simpa using h0
    by_cases h1 : (s.l.length : Int) ≤ r
    · have e : ldOk s.l r = false := by simp [ldOk, h1]
      have e2 : ldV s.l r = 0 := by rw [ldV, e]; rfl
      rw [e, e2]
      clear e e2
      have d1 : decide ((s.l.length : Int) ≤ r) = true := by simpa using h1
      go_enter Try.func40, Try.ntmps40
      go_wp2_with fail
      go_ret2
      exact ⟨rfl, rfl⟩
    · have d1 : decide ((s.l.length : Int) ≤ r) = false := by simpa using h1
      have hk : r.toNat < s.l.length := by omega
      have e : ldOk s.l r = true := by unfold ldOk; exact decide_eq_true (by omega)
      have e2 : ldV s.l r = s.l[r.toNat] := by rw [ldV, e, if_pos rfl]; simp [List.getD_eq_getElem?_getD, hk]
      rw [e, e2]
      clear e e2
      obtain ⟨b, o, hat, hb, hc⟩ := getW32 25 21 Try.underlying25 (by kernel_rfl) hs'.out r hk (by omega)
      go_enter Try.func40, Try.ntmps40
      go_wp2_with fail
      go_ret2
      exact ⟨rfl, rfl⟩
set_option maxRecDepth 1000000 in
set_option maxHeartbeats 800000 in
/-- 'interp.Store'. -/
theorem interpStore (R : Sl Int) (r v : Int) (base : Nat) (w : World) (hR : Own kW 21 base w R) (hr : wrap64 r = r) :
    Calls Try.prog 41 #[R.val, .int .i32 r, .int .i32 v] w fun e w' => e = .returned (.bool (ldOk R.l r)) ∧ Own kW 21 base w' (R.wl (mset R.l r v)) ∧ Chg (fun k => some k = R.val.ownBlock) w w' ∧ w'.heap.size = w.heap.size := by
  have hc' := Lib.hid (interpLoad R r w hR.rd hr)
  have hR' := Lib.hid hR
  clear hR
  cases hk : ldOk R.l r with
  | true =>
    rw [hk] at hc'
    obtain ⟨g, hA, hbs, hlt, hc, hf, hob, hst⟩ := hR'.out.setAt r v ((ldOk_iff _ _).1 hk)
    have hat := run_index32 (P := Try.prog) 25 21 Try.underlying25 R g 0 1 hA (by kernel_rfl) r r.toNat (by have := (ldOk_iff _ _).1 hk; omega) (by have := (ldOk_iff _ _).1 hk; omega)
    rw [Nat.zero_add, Nat.mul_one] at hat
    have hst' := Lib.hid hst
    clear hst
    go_enter Try.func41, Try.ntmps41
    go_wp2_with fail
    refine hc'.out.mono ?_
    rintro e w1 ⟨rfl, rfl⟩
    go_wp2_with fail
    go_ret
    exact ⟨rfl, hst'.out, (Chg.refl _ _).set _ _ _ (Or.inl hob.symm), by simp [World.setCell]⟩
  | false =>
    rw [hk] at hc'
    have e : mset R.l r v = R.l := by rw [mset, if_neg (by rw [← ldOk_iff, hk]; simp)]
    rw [e]
    clear e
    go_enter Try.func41, Try.ntmps41
    go_wp2_with fail
    refine hc'.out.mono ?_
    rintro e w1 ⟨rfl, rfl⟩
    go_wp2_with fail
    go_ret
    exact ⟨rfl, hR'.out, Chg.refl _ _, rfl⟩
set_option maxRecDepth 1000000 in
set_option maxHeartbeats 800000 in
/-- 'interp.Memory'. -/
theorem interpMemory (x : Jq.Input Sl) (w : World) (hx : kInput.rd w x) :
    Calls Try.prog 42 #[x.v] w (RetSl kW 21 w (x.mem.l.take 4096)) := by
  have hm := Lib.hid hx.2.1
  have hbd := Kd.bound (d := kW) hx.2.1
  have htk := fun i h => run_take (P := Try.prog) 25 21 1 Try.underlying25 (by kernel_rfl) x.mem i h (Kd.cap_ (d := kW) hx.2.1)
  clear hx
  by_cases h : 4096 < x.mem.l.length
  · have h1 : ∀ W : World, (Instr.sliceAt 25 x.mem.val none (some (.int .i64 4096)) none).run Try.prog W = .ok (x.mem.tk 4096).val W := htk 4096 (by omega)
    clear htk
    have d1 : decide (4096 < x.mem.l.length) = true := by simpa using h
    have d2 : decide (x.mem.l.length < 4096) = false := by simp; omega
    have d3 : decide (x.mem.l.length ≤ 4096) = false := by simp; omega
    go_enter Try.func42, Try.ntmps42
    go_wp2_with fail
    refine (cloneW (x.mem.tk 4096) _ (kW.sl.below (tk_rd hm.out 4096) (bal (Below.refl _ _) _)) (by simp [Sl.tk]; omega)).mono ?_
    rintro e w1 ⟨t, rfl, hl, ho, hb⟩
    have hl' := Lib.hid hl
    have ho' := Lib.hid (ho.lower (base' := w.heap.size) (by simp))
    have hb' := Lib.hid (bthen (bal (Below.refl _ _) _) hb)
    clear hl ho hb
    go_wp2_with fail
    go_ret
    exact ⟨t, rfl, by rw [hl'.out]; rfl, ho'.out, hb'.out⟩
  · have h1 := htk x.mem.l.length (Nat.le_refl _)
    clear htk
    have hl0 : x.mem.l.length ≤ 4096 := by omega
    have d1 : decide (4096 < x.mem.l.length) = false := by simpa using hl0
    have d3 : decide (x.mem.l.length ≤ 4096) = true := by simpa using hl0
    have hm4 : (x.mem.tk x.mem.l.length).l.length * 4 ≤ 140737488355328 := by simp [Sl.tk]; omega
    go_enter Try.func42, Try.ntmps42
    go_wp2_with fail
    refine (cloneW (x.mem.tk x.mem.l.length) _ (kW.sl.below (tk_rd hm.out x.mem.l.length) (bal (Below.refl _ _) _)) hm4).mono ?_
    rintro e w1 ⟨t, rfl, hl, ho, hb⟩
    have hl' := Lib.hid hl
    have ho' := Lib.hid (ho.lower (base' := w.heap.size) (by simp))
    have hb' := Lib.hid (bthen (bal (Below.refl _ _) _) hb)
    clear hl ho hb
    go_wp2_with fail
    go_ret
    exact ⟨t, rfl, by rw [hl'.out]; simp [Sl.tk, List.take_of_length_le hl0], ho'.out, hb'.out⟩
end Go.Proofs.Ytjlehpgfhlkjlaa
