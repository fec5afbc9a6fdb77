/-
  mach.Run.
-/
import Derived.Test.YtjlehpgfhlkjlaaRun1
import Derived.BigRegion
import Derived.WalkMore
import Derived.Deep.Cut
import Derived.Deep.DeepCutAuto
import Derived.Deep.CutBlock
import Derived.Deep.LoopGhost
import Derived.Deep.RegionLaw
set_option linter.all false
namespace Go.Proofs.Ytjlehpgfhlkjlaa
open Go.RowKit Jq Go.Deep
set_option linter.unusedVariables false
theorem infoW' : (Try.prog.info? 21).map (fun i => (i.zero, i.size, i.bytes)) = some (some (.int .i32 0), 1, 4) := by kernel_rfl
theorem mkRegs : ∀ W : World, (Instr.makeSlice 25 (.int .i64 8192) (.int .i64 8192)).run Try.prog W = .ok (.slice (some ⟨W.heap.size, 0, none⟩) 8192 8192) (W.alloc (.cells (madeCells #[.int .i32 0] 8192) 21)) := by
  intro W
  exact run_make_row' 25 21 (.int .i32 0) 4 Try.underlying25 infoW' rfl .i64 .i64 8192 (by omega) (by omega) W
theorem made_toArray (v : Value) (n : Nat) : madeCells #[v] n = (List.replicate n v).toArray := by
  rw [← toList_madeCells_one]
theorem mkRegs2 (Z : List Value) (hZ : Z = List.replicate 8192 (.int .i32 0)) : ∀ W : World, (Instr.makeSlice 25 (.int .i64 8192) (.int .i64 8192)).run Try.prog W = .ok (.slice (some ⟨W.heap.size, 0, none⟩) 8192 8192) (W.alloc (.cells Z.toArray 21)) := by
  intro W
  rw [mkRegs W, made_toArray, ← hZ]
/-- What a run leaves. -/
def RunRes (m : MFunc Sl) (x : Jq.Input Sl) (w : World) (e : Ending) (w' : World) : Prop :=
  ∃ o : Jq.Outcome Sl, e = .returned o.v ∧ o.p = mrun m.p x.p ∧ Own kW 21 w.heap.size w' o.mem ∧ Own kEvent 56 w.heap.size w' o.calls ∧ (∀ y, y ∈ o.calls.l → ∀ k, k ∈ kEvent.fp y → w.heap.size ≤ k) ∧ Below w.heap.size w w'

set_option maxRecDepth 1000000 in
set_option maxHeartbeats 800000 in
theorem run_results (W : World) (b : Nat) (k v st : Int) (M : Sl Int) (C : Sl (Jq.Event Sl)) (hh : W.heap[b]? = some (.cells [.int .i64 k, .int .i32 v, M.val, C.val, .int .i64 st].toArray 33 (0, 0))) (ts : Array Value) (ht : ts[4]? = some (.pointer (some ⟨b, 0, none⟩))) :
    (results Try.f18 ts).run Try.prog W = .ok (.agg #[.int .i64 k, .int .i32 v, M.val, C.val, .int .i64 st]) W := by
  have c0 : W.cell? ⟨b, 0, none⟩ = some (.int .i64 k) := by simp [World.cell?, hh]
  have c1 : W.cell? ⟨b, 1, none⟩ = some (.int .i32 v) := by simp [World.cell?, hh]
  have c2 : W.cell? ⟨b, 2, none⟩ = some M.val := by simp [World.cell?, hh]
  have c3 : W.cell? ⟨b, 3, none⟩ = some C.val := by simp [World.cell?, hh]
  have c4 : W.cell? ⟨b, 4, none⟩ = some (.int .i64 st) := by simp [World.cell?, hh]
  simp [results, Try.results18, go_sem, Array.getD_eq_getD_getElem?, ht, c0, c1, c2, c3, c4]

theorem regs0_len (p : Int) (a : List Int) (h : p ≤ 4) : (regs0 p a).length = 8192 := by
  rw [regs0, List.length_append, List.length_replicate]
  have : (a.take p.toNat).length ≤ 4 := by rw [List.length_take]; omega
  omega
theorem regs0_splice (p : Nat) (a : List Int) (Z cs : List Value) (hZ : Z = List.replicate 8192 (.int .i32 0)) (hcs : cs = (a.take p).map (.int .i32)) : splice Z 0 cs = (regs0 (p : Int) a).map (.int .i32) := by
  rw [splice, hZ, hcs, regs0, Int.toNat_natCast, List.take_zero, List.nil_append, Nat.zero_add, List.drop_replicate, List.length_map, List.map_append, List.map_replicate]
/-- What holds as the first block begins. -/
theorem ri_start (m : MFunc Sl) (x : Jq.Input Sl) (M : Sl Int) (w wc : World) (q : Nat) (rl : List Int) (hrl : rl = regs0 m.params x.args.l) (hr0 : rl.length = 8192) (hx : kInput.rd w x) (hsz : w.heap.size + 3 ≤ q)
    (k0 : wc.heap[w.heap.size]? = some (.cells [.int .i64 m.params, m.blocks.val].toArray 24 (0, 0)))
    (k1 : wc.heap[w.heap.size + 1]? = some (.cells [x.args.val, x.mem.val, x.answers.val, .int .i64 x.steps].toArray 27 (0, 0)))
    (k2 : wc.heap[w.heap.size + 2]? = some (.cells [.int .i64 0, .int .i32 0, .slice none 0 0, .slice none 0 0, .int .i64 0].toArray 33 (0, 0)))
    (ho : wc.heap[q]? = some (.cells [.int .i64 0, .int .i32 0, M.val, .slice none 0 0, .int .i64 0].toArray 33 (0, 0)))
    (hrg : wc.heap[q + 1]? = some (.cells (rl.map (.int .i32)).toArray 21 (0, 0)))
    (hM : Own kW 21 w.heap.size wc M) (hMl : M.l = x.mem.l.take 4096) (hMk : ∀ k, some k = M.val.ownBlock → w.heap.size + 2 < k ∧ k < q) (hB : Below w.heap.size w wc) (hs : q + 2 ≤ wc.heap.size) :
    ∃ R : Sl Int, R.val = .slice (some ⟨q + 1, 0, none⟩) 8192 8192 ∧ RF R M q (q + 2) w ∧ RI m x R M q (q + 2) w wc (rs0 m.p x.p) nilSl x.answers := by
  have hRv : (⟨some ⟨q + 1, 0, none⟩, 8192, rl⟩ : Sl Int).val = .slice (some ⟨q + 1, 0, none⟩) 8192 8192 := by simp only [Sl.val, hr0]
  have hRb : (⟨some ⟨q + 1, 0, none⟩, 8192, rl⟩ : Sl Int).val.ownBlock = some (q + 1) := by rw [hRv]; rfl
  have e1 : (rs0 m.p x.p).regs = rl := by rw [hrl]; rfl
  have e2 : (rs0 m.p x.p).mem = M.l := by rw [hMl]; rfl
  refine ⟨⟨some ⟨q + 1, 0, none⟩, 8192, rl⟩, hRv, ⟨⟨by omega, by omega⟩, fun k hk => ?_, fun k hk => ?_, hr0⟩, ⟨k0, k1, k2, ho, ?_, by rw [e1], ?_, by rw [e2], Own.nil _ _ _ _, fun y hy => absurd hy (by simp [nilSl]), rfl, hx.2.2, rfl, hB, hs, Int.le_refl _⟩⟩
  · rw [hRb] at hk
    injection hk with hk
    subst hk
    refine ⟨by omega, by omega, by omega, fun e => ?_⟩
    have := hMk _ e
    omega
  · have := hMk k hk
    exact ⟨by omega, by omega, by omega⟩
  · rw [e1]
    have h := own_block (.int .i32) 21 w.heap.size wc rl (q + 1) (by omega) hrg (by omega)
    rw [hr0] at h
    exact h
  · rw [e2, Sl.wl_self]
    exact hM

theorem run_done {m : MFunc Sl} {x : Jq.Input Sl} {R M : Sl Int} {ob : Nat} {w wr : World} {s : RS} {C : Sl (Jq.Event Sl)} {A : Sl Int} (f : RF R M ob (ob + 2) w) (h : RI m x R M ob (ob + 2) w wr s C A) (h0 : (funcErr m.p).1 = 0) {k v : Int}
    (hw : runAt m.p x.steps (x.steps.toNat + 1) 0 (-1) (rs0 m.p x.p) = (s, k, v)) {W : World} (hc : Chg (fun q => q = ob) wr W) (ts : Array Value) (ht : ts[4]? = some (.pointer (some ⟨w.heap.size + 2, 0, none⟩))) :
    bodyPost Try.prog Try.f18 (RunRes m x w) .ret { tmps := ts, defers := [] } (((((W.setCell ⟨w.heap.size + 2, 0, none⟩ (.int .i64 k)).setCell ⟨w.heap.size + 2, 1, none⟩ (.int .i32 v)).setCell ⟨w.heap.size + 2, 2, none⟩ M.val).setCell ⟨w.heap.size + 2, 3, none⟩ C.val).setCell ⟨w.heap.size + 2, 4, none⟩ (.int .i64 s.steps)) := by
  have hob := f.bob
  have hbt : W.heap[w.heap.size + 2]? = _ := (hc.block _ (lt_of_block h.bt) (by omega)).trans h.bt
  have e := heap_set_self (o := 4) (v := .int .i64 s.steps) (heap_set_self (o := 3) (v := C.val) (heap_set_self (o := 2) (v := M.val) (heap_set_self (o := 1) (v := .int .i32 v) (heap_set_self (o := 0) (v := .int .i64 k) hbt))))
  have hch : Chg (fun q => q = ob ∨ q = w.heap.size + 2) wr (((((W.setCell ⟨w.heap.size + 2, 0, none⟩ (.int .i64 k)).setCell ⟨w.heap.size + 2, 1, none⟩ (.int .i32 v)).setCell ⟨w.heap.size + 2, 2, none⟩ M.val).setCell ⟨w.heap.size + 2, 3, none⟩ C.val).setCell ⟨w.heap.size + 2, 4, none⟩ (.int .i64 s.steps)) :=
    (((((hc.mono (G := fun q => q = ob ∨ q = w.heap.size + 2) fun q hq => Or.inl hq).set (w.heap.size + 2) 0 _ (Or.inl (Or.inr rfl))).set (w.heap.size + 2) 1 _ (Or.inl (Or.inr rfl))).set (w.heap.size + 2) 2 _ (Or.inl (Or.inr rfl))).set (w.heap.size + 2) 3 _ (Or.inl (Or.inr rfl))).set (w.heap.size + 2) 4 _ (Or.inl (Or.inr rfl))
  have hv : (M.wl s.mem).val = M.val := Sl.wl_val h.mlen
  refine bodyPost_ret (run_results _ (w.heap.size + 2) k v s.steps M C (by simpa using e) _ ht) rfl ⟨⟨k, v, M.wl s.mem, C, s.steps⟩, ?_, ?_, ?_, ?_, ?_, ?_⟩
  · show Ending.returned (.agg #[.int .i64 k, .int .i32 v, M.val, C.val, .int .i64 s.steps]) = .returned (.agg #[.int .i64 k, .int .i32 v, (M.wl s.mem).val, C.val, .int .i64 s.steps])
    rw [hv]
  · rw [mrun, if_pos h0]
    have hst : x.p.steps = x.steps := rfl
    rw [hst, hw]
    show (⟨k, v, s.mem, C.l.map Jq.Event.p, s.steps⟩ : Jq.Outcome List) = ⟨k, v, s.mem, s.calls, s.steps⟩
    rw [h.cl]
  · refine h.mem.mv fun q hq => ?_
    rcases hq with hq | ⟨y, _, hq⟩
    · have hlt := h.mem.lt q (Or.inl hq)
      rw [hv] at hq
      have := f.m q hq
      exact hch.block q hlt (by omega)
    · simp [kW, Kd.scalar] at hq
  · refine (h.calls.lower (by omega)).mv fun q hq => ?_
    have := kEvent_ge h hq
    exact hch.block q (h.calls.lt q hq) (by omega)
  · intro y hy q hq
    have := h.cfp y hy q hq
    omega
  · exact ⟨hch.os.trans h.below.os, hch.tape.trans h.below.tape, hch.output.trans h.below.output, Nat.le_trans h.below.size hch.size, fun q hq => (hch.block q (by have := h.below.size; omega) (by omega)).trans (h.below.block q hq)⟩

theorem mval_len (op a b c imm : Int) (mem : List Int) : (mval op a b c imm mem).2.2.length = mem.length := by
  unfold mval
  repeat (first | rfl | exact mset_len _ _ _ | split)
theorem mdo_len (i : Mach List) (regs mem : List Int) : (mdo i regs mem).2.1.length = regs.length ∧ (mdo i regs mem).2.2.length = mem.length := by
  unfold mdo
  split
  · exact ⟨by simp only [mset_len], rfl⟩
  split
  · exact ⟨by simp only [mset_len], rfl⟩
  split
  · exact ⟨rfl, rfl⟩
  have h := mval_len i.op (mget regs i.a) (mget regs i.b) (mget regs i.c) i.imm mem
  split
  · rename_i v m' hv; rw [hv] at h; exact ⟨setAll_len _ _ _, h⟩
  · rename_i v m' hv; rw [hv] at h; exact ⟨rfl, h⟩
theorem DoF_wl {R M : Sl Int} {a b : List Int} (ha : a.length = R.l.length) (hb : b.length = M.l.length) : DoF (R.wl a) (M.wl b) = DoF R M := by
  funext k
  unfold DoF
  rw [Sl.wl_val ha, Sl.wl_val hb]
theorem stop_facts {m : MFunc Sl} {x : Jq.Input Sl} {R M : Sl Int} {ob : Nat} {w wr : World} {s : RS} {C : Sl (Jq.Event Sl)} {A : Sl Int} (f : RF R M ob (ob + 2) w) (h : RI m x R M ob (ob + 2) w wr s C A) {W : World} (hc : Chg (fun q => q = ob) wr W) :
    W.cell? ⟨w.heap.size + 2, 0, none⟩ = some (.int .i64 0) ∧ W.cell? ⟨w.heap.size + 2, 1, none⟩ = some (.int .i32 0) ∧ W.cell? ⟨w.heap.size + 2, 2, none⟩ = some (.slice none 0 0) ∧ W.cell? ⟨w.heap.size + 2, 3, none⟩ = some (.slice none 0 0) ∧ W.cell? ⟨w.heap.size + 2, 4, none⟩ = some (.int .i64 0) ∧ ∀ k, W.frozen? ⟨w.heap.size + 2, k, none⟩ = false := by
  have hob := f.bob
  have hbt : W.heap[w.heap.size + 2]? = _ := (hc.block _ (lt_of_block h.bt) (by omega)).trans h.bt
  refine ⟨?_, ?_, ?_, ?_, ?_, fun k => ?_⟩ <;> simp [World.cell?, World.frozen?, hbt]
theorem RI.co {m : MFunc Sl} {x : Jq.Input Sl} {R M : Sl Int} {ob hb : Nat} {w wr : World} {s : RS} {C : Sl (Jq.Event Sl)} {A : Sl Int} (h : RI m x R M ob hb w wr s C A) :
    wr.cell? ⟨ob, 2, none⟩ = some M.val ∧ wr.cell? ⟨ob, 3, none⟩ = some C.val ∧ wr.cell? ⟨ob, 4, none⟩ = some (.int .i64 s.steps) ∧ (∀ k, wr.frozen? ⟨ob, k, none⟩ = false) ∧ wr.cell? ⟨w.heap.size + 1, 3, none⟩ = some (.int .i64 x.steps) := by
  refine ⟨?_, ?_, ?_, fun k => ?_, ?_⟩ <;> simp [World.cell?, World.frozen?, h.bo, h.bi]

set_option maxRecDepth 1000000 in
set_option maxHeartbeats 8000000 in
/-- 'mach.Run'. -/
theorem machRun (m : MFunc Sl) (x : Jq.Input Sl) (w : World) (hm : kMFunc.rd w m) (hx : kInput.rd w x) (hb8 : ∀ b, b ∈ m.blocks.l → ∀ y, y ∈ b.ins.l → y.args.l.length * 8 ≤ 140737488355328) (hst : x.steps ≤ 1099511627776) :
    Calls Try.prog 18 #[m.v, x.v] w (RunRes m x w) := by
  have hm' := Lib.hid hm
  have hx' := Lib.hid hx
  have hb8' := Lib.hid hb8
  clear hm hx hb8
  go_enter Try.func18, Try.ntmps18
  go_wp2_with fail
  apply wp_scope_straight
  go_wp2_with fail
  refine (machRight m _ (kMFunc.below hm'.out (bal (bal (bal (Below.refl _ _) _) _) _)) hb8'.out).mono ?_
  rintro e w1 ⟨rfl, hb1⟩
  obtain ⟨W0, hW0⟩ : ∃ W0, W0 = ((w.alloc (.cells #[.int .i64 m.params, m.blocks.val] 24)).alloc (.cells #[x.args.val, x.mem.val, x.answers.val, .int .i64 x.steps] 27)).alloc (.cells #[.int .i64 0, .int .i32 0, .slice none 0 0, .slice none 0 0, .int .i64 0] 33) := ⟨_, rfl⟩
  have hB0 : Below w.heap.size w W0 := by subst hW0; exact bal (bal (bal (Below.refl _ _) _) _) _
  have hs0 : W0.heap.size = w.heap.size + 3 := by subst hW0; simp
  have h0 : W0.heap[w.heap.size]? = some (.cells [.int .i64 m.params, m.blocks.val].toArray 24 (0, 0)) := by
    subst hW0
    rw [Below.heap_alloc _ _ _ (by simp; omega), Below.heap_alloc _ _ _ (by simp)]
    exact heap_alloc_new w _
  have h1 : W0.heap[w.heap.size + 1]? = some (.cells [x.args.val, x.mem.val, x.answers.val, .int .i64 x.steps].toArray 27 (0, 0)) := by
    subst hW0
    rw [Below.heap_alloc _ _ _ (by simp)]
    have h := heap_alloc_new (w.alloc (.cells #[.int .i64 m.params, m.blocks.val] 24)) (.cells #[x.args.val, x.mem.val, x.answers.val, .int .i64 x.steps] 27)
    simpa using h
  have h2 : W0.heap[w.heap.size + 2]? = some (.cells [.int .i64 0, .int .i32 0, .slice none 0 0, .slice none 0 0, .int .i64 0].toArray 33 (0, 0)) := by
    subst hW0
    have h := heap_alloc_new ((w.alloc (.cells #[.int .i64 m.params, m.blocks.val] 24)).alloc (.cells #[x.args.val, x.mem.val, x.answers.val, .int .i64 x.steps] 27)) (.cells #[.int .i64 0, .int .i32 0, .slice none 0 0, .slice none 0 0, .int .i64 0] 33)
    simpa using h
  rw [← hW0] at hb1
  clear hW0
  have hB1 := Lib.hid (bthen hB0 hb1)
  have g0 := Lib.hid ((hb1.block _ (lt_of_block h0)).trans h0)
  have g1 := Lib.hid ((hb1.block _ (lt_of_block h1)).trans h1)
  have g2 := Lib.hid ((hb1.block _ (lt_of_block h2)).trans h2)
  have hsz1 := Lib.hid (show w.heap.size + 3 ≤ w1.heap.size by have := hb1.size; omega)
  clear hB0 hb1 h0 h1 h2 hs0
  cases hfe : ((funcErr m.p).1 == 0) with
  | false =>
    have hfe' := Lib.hid hfe
    clear hfe
    have t0 : w1.cell? ⟨w.heap.size + 2, 0, none⟩ = some (.int .i64 0) := by simp [World.cell?, g2.out]
    have t1 : w1.cell? ⟨w.heap.size + 2, 1, none⟩ = some (.int .i32 0) := by simp [World.cell?, g2.out]
    have t2 : w1.cell? ⟨w.heap.size + 2, 2, none⟩ = some (.slice none 0 0) := by simp [World.cell?, g2.out]
    have t3 : w1.cell? ⟨w.heap.size + 2, 3, none⟩ = some (.slice none 0 0) := by simp [World.cell?, g2.out]
    have t4 : w1.cell? ⟨w.heap.size + 2, 4, none⟩ = some (.int .i64 0) := by simp [World.cell?, g2.out]
    have f0 : ∀ k, w1.frozen? ⟨w.heap.size + 2, k, none⟩ = false := by intro k; simp [World.frozen?, g2.out]
    go_wp2_with fail
    have e := heap_set_self (o := 4) (v := .int .i64 0) (heap_set_self (o := 3) (v := .slice none 0 0) (heap_set_self (o := 2) (v := .slice none 0 0) (heap_set_self (o := 1) (v := .int .i32 0) (heap_set_self (o := 0) (v := .int .i64 4) g2.out))))
    refine bodyPost_ret (run_results _ (w.heap.size + 2) 4 0 0 nilSl nilSl (by simpa [Sl.val, nilSl] using e) _ rfl) rfl ⟨⟨4, 0, nilSl, nilSl, 0⟩, rfl, ?_, Own.nil _ _ _ _, Own.nil _ _ _ _, fun y hy => absurd hy (by simp [nilSl]), ?_⟩
    · rw [mrun, if_neg (by simpa using hfe'.out)]; rfl
    · repeat (first | exact hB1.out | refine bset ?_ _ _ (by show w.heap.size ≤ w.heap.size + 2; omega))
  | true =>
    have hok := Lib.hid (funcOk (show (funcErr m.p).1 = 0 by simpa using hfe))
    have hfe' := Lib.hid (show (funcErr m.p).1 = 0 by simpa using hfe)
    clear hfe
    have i0 : w1.cell? ⟨w.heap.size + 1, 0, none⟩ = some x.args.val := by simp [World.cell?, g1.out]
    have i1 : w1.cell? ⟨w.heap.size + 1, 1, none⟩ = some x.mem.val := by simp [World.cell?, g1.out]
    have i2 : w1.cell? ⟨w.heap.size + 1, 2, none⟩ = some x.answers.val := by simp [World.cell?, g1.out]
    have i3 : w1.cell? ⟨w.heap.size + 1, 3, none⟩ = some (.int .i64 x.steps) := by simp [World.cell?, g1.out]
    go_wp2_with fail
    clear i0 i1 i2 i3
    refine (interpMemory x _ (kInput.below hx'.out hB1.out)).mono ?_
    rintro e w2 ⟨M, rfl, hMl, hMo, hb2⟩
    obtain ⟨Z, hZ⟩ : ∃ Z : List Value, Z = List.replicate 8192 (.int .i32 0) := ⟨_, rfl⟩
    obtain ⟨W3, hW3⟩ : ∃ W3, W3 = (w2.alloc (.cells #[.int .i64 0, .int .i32 0, M.val, .slice none 0 0, .int .i64 0] 33)).alloc (.cells Z.toArray 21) := ⟨_, rfl⟩
    have hmk2 := mkRegs2 Z hZ
    have hMo' := Lib.hid hMo
    have hMl' := Lib.hid hMl
    have hb2' := Lib.hid hb2
    have hZl := Lib.hid hZ
    have hW3' := Lib.hid hW3
    clear hMo hMl hb2 hZ hW3
    go_wp2_with fail
    have hW4 : (w2.alloc (.cells #[.int .i64 0, .int .i32 0, .slice M.A M.l.length M.cap, .slice none 0 0, .int .i64 0] 33)).alloc (.cells Z.toArray 21) = W3 := by rw [hW3'.out]
    go_must (rw [hW4])
    clear hW4 hmk2
    have hb3 : Below w2.heap.size w2 W3 := by rw [hW3'.out]; exact bal (bal (Below.refl _ _) _) _
    have hs3 : W3.heap.size = w2.heap.size + 2 := by rw [hW3'.out]; simp
    have hoB : W3.heap[w2.heap.size]? = some (.cells [.int .i64 0, .int .i32 0, M.val, .slice none 0 0, .int .i64 0].toArray 33 (0, 0)) := by
      rw [hW3'.out, Below.heap_alloc _ _ _ (by simp)]
      exact heap_alloc_new w2 _
    have hrB : W3.heap[w2.heap.size + 1]? = some (.cells Z.toArray 21 (0, 0)) := by
      rw [hW3'.out]
      have h := heap_alloc_new (w2.alloc (.cells #[.int .i64 0, .int .i32 0, M.val, .slice none 0 0, .int .i64 0] 33)) (.cells Z.toArray 21)
      simpa using h
    have hb13 : Below w1.heap.size w1 W3 := bthen hb2'.out hb3
    have k0 := Lib.hid ((hb13.block _ (lt_of_block g0.out)).trans g0.out)
    have k1 := Lib.hid ((hb13.block _ (lt_of_block g1.out)).trans g1.out)
    have k2 := Lib.hid ((hb13.block _ (lt_of_block g2.out)).trans g2.out)
    have hM3 := Lib.hid ((hMo'.out.lower (base' := w.heap.size) (by have := hB1.out.size; omega)).below hb3)
    have hM1 := Lib.hid (show ∀ k, some k = M.val.ownBlock → w1.heap.size ≤ k ∧ k < w2.heap.size from fun k hk => ⟨hMo'.out.ge k hk, hMo'.out.lt k (Or.inl hk)⟩)
    have hB3 := Lib.hid (show Below w.heap.size w W3 from bthen hB1.out hb13)
    have hs2 := Lib.hid (show w1.heap.size ≤ w2.heap.size from hb2'.out.size)
    have hs3' := Lib.hid hs3
    have hoB' := Lib.hid hoB
    have hrB' := Lib.hid hrB
    have a0 : W3.cell? ⟨w.heap.size, 0, none⟩ = some (.int .i64 m.params) := by simp [World.cell?, k0.out]
    have a1 : W3.cell? ⟨w.heap.size + 1, 0, none⟩ = some x.args.val := by simp [World.cell?, k1.out]
    have a2 : W3.cell? ⟨w.heap.size + 1, 2, none⟩ = some x.answers.val := by simp [World.cell?, k1.out]
    obtain ⟨pn, hpn⟩ : ∃ pn : Nat, m.params = (pn : Int) := ⟨m.params.toNat, by have : (0 : Int) ≤ m.params := hok.out.params.1; omega⟩
    have hpn4 : pn ≤ 4 := by have h : m.params ≤ 4 := hok.out.params.2; omega
    have hZl2 : Z.length = 8192 := by rw [hZl.out]; exact List.length_replicate
    have hcut : ∀ W : World, (Instr.sliceAt 25 (.slice (some ⟨w2.heap.size + 1, 0, none⟩) 8192 8192) none (some (.int .i64 m.params)) none).run Try.prog W = .ok (.slice (some ⟨w2.heap.size + 1, 0, none⟩) pn 8192) W := by
      intro W
      have h := run_take (P := Try.prog) 25 21 1 Try.underlying25 (by kernel_rfl) (⟨some ⟨w2.heap.size + 1, 0, none⟩, 8192, Z⟩ : Sl Value) pn (by show pn ≤ Z.length; omega) (by show Z.length ≤ 8192; omega) W
      rw [hpn]
      have e1 : (⟨some ⟨w2.heap.size + 1, 0, none⟩, 8192, Z⟩ : Sl Value).val = .slice (some ⟨w2.heap.size + 1, 0, none⟩) 8192 8192 := by simp only [Sl.val, hZl2]
      have e2 : ((⟨some ⟨w2.heap.size + 1, 0, none⟩, 8192, Z⟩ : Sl Value).tk pn).val = .slice (some ⟨w2.heap.size + 1, 0, none⟩) pn 8192 := by
        simp only [Sl.val, Sl.tk, List.length_take, hZl2]
        rw [Nat.min_eq_left (by omega)]
      rw [e1, e2] at h
      exact h
    obtain ⟨cs, hcs⟩ : ∃ cs : List Value, cs = (x.args.l.take pn).map (.int .i32) := ⟨_, rfl⟩
    have hcsl : cs.length = Nat.min x.args.l.length pn := by rw [hcs]; simp [Nat.min_comm]
    have hcs1 : ∀ v ∈ cs, v.oneCell' = true := by
      intro v hv
      rw [hcs] at hv
      obtain ⟨y, _, rfl⟩ := List.mem_map.1 hv
      rfl
    have hpos : ∀ W : World, Below W3.heap.size W3 W → 0 < cs.length → (some ⟨w2.heap.size + 1, 0, none⟩ : Option Addr) = some ⟨w2.heap.size + 1, 0, none⟩ ∧ ∃ ad, x.args.A = some ad ∧ ∀ j v, cs[j]? = some v → W.cell? (ad.add j) = some v := by
      intro W hW hc
      have hra := kW.sl.below hx'.out.1 (bthen hB3.out hW)
      have hmin : Nat.min x.args.l.length pn ≤ x.args.l.length := Nat.min_le_left _ _
      obtain ⟨b, o, hA, hb, hcell⟩ := hra.2.2.1 (by omega)
      refine ⟨rfl, _, hA, fun j v hv => ?_⟩
      rw [hcs] at hv
      simp only [List.getElem?_map, Option.map_eq_some_iff] at hv
      obtain ⟨y, hy, rfl⟩ := hv
      have hj : j < x.args.l.length := by
        have := (List.getElem?_eq_some_iff.1 hy).1
        simp at this; omega
      have hyj : x.args.l[j] = y := by
        have := (List.getElem?_eq_some_iff.1 hy).2
        simpa using this
      have h5 := hcell j hj 0 (by decide)
      have e : (⟨b, o, none⟩ : Addr).add j = ⟨b, o + (j * kW.sz + 0), none⟩ := by
        simp only [kW, Kd.scalar, Nat.mul_one, Nat.add_zero, Addr.add]
        split <;> simp_all
      rw [e, h5]
      simp [kW, Kd.scalar, hyj]
    have hpos' := Lib.hid hpos
    have hcs' := Lib.hid hcs
    have hpn' := Lib.hid hpn
    clear hpn hpos hcs hb3 hs3 hoB hrB hb13 hZl2
    go_cut [33] (fun v wx => Hid (wx.heap[w2.heap.size + 1]? = some (.cells (splice Z 0 cs).toArray 21 (0, 0))) ∧ Below (w2.heap.size + 1) W3 wx)
    case first =>
      go_region_law (refine step_copy_splice rfl (.tmp 30) (.tmp 32) 25 25 rfl 21 Try.underlying25 (by kernel_rfl) _ _ _ _ _ _ rfl rfl (w2.heap.size + 1) 0 Z 21 hrB'.out cs hcsl (hpos'.out _ (by repeat (first | exact Below.refl _ _ | refine Below.drew ?_))) (by rw [hZl.out, List.length_replicate]; have : Nat.min x.args.l.length pn ≤ pn := Nat.min_le_right _ _; omega) hcs1 (w2.heap.size + 1) W3 (Below.refl _ _).drew (Nat.le_refl _) ?_; intro w4 hg4 hb4)
      all_goals (go_wp2_with fail; go_meet; exact ⟨hg4, hb4⟩)
    case rest =>
      obtain ⟨hg4, hb4⟩ := hcut
      have hbk : ∀ k, k < w2.heap.size + 1 → wc.heap[k]? = W3.heap[k]? := fun k hk => hb4.block k hk
      have h1 := hsz1.out
      have h2 := hs2.out
      have h3 := hs3'.out
      obtain ⟨rl, hrl⟩ : ∃ rl, rl = regs0 m.params x.args.l := ⟨_, rfl⟩
      have hrg := hg4.out
      rw [regs0_splice pn x.args.l Z cs hZl.out hcs'.out, ← hpn'.out, ← hrl] at hrg
      obtain ⟨R, hRv, hRF, hRI⟩ := ri_start m x M w wc w2.heap.size rl hrl (by rw [hrl]; exact regs0_len _ _ hok.out.params.2) hx'.out (by omega) ((hbk _ (by omega)).trans k0.out) ((hbk _ (by omega)).trans k1.out) ((hbk _ (by omega)).trans k2.out) ((hbk _ (by omega)).trans hoB'.out) hrg
        (hM3.out.mv fun k hk => by
          rcases hk with hk | ⟨y, _, hk⟩
          · have := hM1.out k hk; exact hbk k (by omega)
          · simp [kW, Kd.scalar] at hk) hMl'.out (fun k hk => by have := hM1.out k hk; exact ⟨by omega, by omega⟩) (hB3.out.trans (hb4.mono (by omega))) (by have := hb4.size; omega)
      have hRFx := Lib.hid hRF
      have hRIx := Lib.hid hRI
      have hRvx := Lib.hid hRv
      clear hrl hRI hRF hbk hrg hb4 hg4 hcsl hcs1 h1 h2 h3
      have i2 : wc.cell? ⟨w.heap.size + 1, 2, none⟩ = some x.answers.val := by simp [World.cell?, hRIx.out.bi]
      clear hB1 g0 g1 g2 hsz1 hMo' hMl' hb2' hZl hW3' k0 k1 k2 hM3 hM1 hB3 hs2 hs3' hoB' hrB' a0 a1 a2 hpn4 hcut hpos' hcs' hpn'
      rw [← hRv]
      clear hRv
      go_wp2_with fail
      apply wp_label
      go_wp2_with fail
      clear i2
      obtain ⟨whole, hwh⟩ : ∃ whole, runAt m.p x.steps (x.steps.toNat + 1) 0 (-1) (rs0 m.p x.p) = whole := ⟨_, rfl⟩
      obtain ⟨ob, hob⟩ : ∃ ob, w2.heap.size = ob := ⟨_, rfl⟩
      rw [hob] at hRFx hRIx
      rw [hob]
      have hwh' := Lib.hid hwh
      clear hRvx hob hwh
      go_loopg [7, 9, 10] (x.steps.toNat + 1) (fun g a t f wr => ∃ (s : RS) (C : Sl (Jq.Event Sl)) (A : Sl Int) (at_ : Nat) (fr : Int), a = A.val ∧ t = .int .i64 at_ ∧ f = .int .i64 fr ∧ RI m x R M ob (ob + 2) w wr s C A ∧ Came m.p at_ fr ∧ runAt m.p x.steps g at_ fr s = whole ∧ (x.steps - s.steps).toNat < g ∧ 0 ≤ s.steps)
      case atStart => exact ⟨rs0 m.p x.p, nilSl, x.answers, 0, -1, rfl, rfl, rfl, hRIx.out, ⟨hok.out.one, Or.inl rfl⟩, hwh'.out, by show (x.steps - 0).toNat < _; omega, Int.le_refl _⟩
      case round =>
        obtain ⟨wg, hwg⟩ : ∃ wg : World, wg = wr := ⟨wr, rfl⟩
        obtain ⟨s, C, A, at_, fr, rfl, rfl, rfl, hRI, hCm, hrun, hfuel, hs0⟩ := hrel
        obtain ⟨gq, rfl⟩ : ∃ gq, gq = gk := ⟨gk, rfl⟩
        have hRI' := Lib.hid hRI
        have hCm' := Lib.hid hCm
        have hrun' := Lib.hid hrun
        have hfuel' := Lib.hid hfuel
        have hs0' := Lib.hid hs0
        clear hRI hCm hrun hfuel hs0 hRIx
        obtain ⟨gn, hgn⟩ : ∃ gn, gq = gn + 1 := ⟨gq - 1, by have := hfuel'.out; omega⟩
        have hgn' := Lib.hid hgn
        clear hgn
        have hlt : at_ < m.blocks.l.length := by have h := hCm'.out.lt; simpa [MFunc.p] using h
        have c1 : wr.cell? ⟨w.heap.size, 1, none⟩ = some m.blocks.val := by simp [World.cell?, hRI'.out.bm]
        obtain ⟨b, o, hat, hb, ⟨c2, c3, c4, c5, c6, c7, c8⟩, hrb⟩ := getMBlock 22 65 Try.underlying22 (by kernel_rfl) (kMBlock.sl.below hm'.out hRI'.out.below) at_ hlt rfl
        have hrb' := Lib.hid (show kMBlock.rd w m.blocks.l[at_] from hm'.out.2.2.2 _ (List.getElem_mem hlt))
        have hbok := Lib.hid (hok.out.block at_ _ (mb_at m hlt))
        clear hrb
        go_wp2_with fail
        clear hat c1 c2 c3 c4 c5 c6 c7 c8
        have hRI2 := hRI'.out.go (bal (Below.refl _ _) (.cells (kMBlock.cs m.blocks.l[at_]).toArray 65))
        have hpn : m.blocks.l[at_].phis.l.length ≤ 16384 := by
          have h := hbok.out.small
          simp only [MBlock.p, List.length_map] at h
          omega
        have hph := machPhis m.blocks.l[at_].phis fr (R.wl s.regs) w.heap.size (wr.alloc (.cells (kMBlock.cs m.blocks.l[at_]).toArray 65)) (kPhi.sl.below hrb'.out.1 hRI2.below) hRI2.regs
          (fun k hk e => by
            rw [Sl.wl_val hRI2.rlen] at e
            have h1 := kPhi.sl.lt hrb'.out.1 k hk
            have h2 := (hRFx.out.r k e).1
            omega) hpn
          (fun p hp => hCm'.out.phi hok.out (mb_at m hlt) _ (by show s.regs.length = 8192; rw [hRI2.rlen]; exact hRFx.out.rl) _ (List.mem_map_of_mem hp))
        rw [Sl.wl_val hRI2.rlen] at hph
        refine hph.mono ?_
        rintro e w5 ⟨rfl, ho, hc⟩
        have hRI3 := Lib.hid (show RI m x R M ob (ob + 2) w w5 (s.phi m.blocks.l[at_].p fr) C A from RI.turnR hRFx.out hRI2 (rl := (s.phi m.blocks.l[at_].p fr).regs) ho (by show (setEach _ _ _).length = _; rw [setEach_len]; exact hRI2.rlen) hc)
        have hbb := Lib.hid (show w5.heap[wr.heap.size]? = some (.cells (kMBlock.cs m.blocks.l[at_]).toArray 65 (0, 0)) from
          (hc.block _ (by simp) fun e => by have h1 := (hRFx.out.r _ e).2.1; have h2 := hRI'.out.size; omega).trans (heap_alloc_new wr _))
        have hbbl := Lib.hid (show ob + 2 ≤ wr.heap.size from hRI'.out.size)
        clear hRI2 hph ho hc
        have cx1 : w5.cell? ⟨wr.heap.size, 1, none⟩ = some m.blocks.l[at_].ins.val := by simp [World.cell?, hbb.out, kMBlock]
        have hib := Kd.bound (d := kMach) hrb'.out.2.1
        go_wp2_with fail
        clear cx1
        subst hwg
        obtain ⟨wq, rfl⟩ : ∃ wq : World, wq = wg := ⟨wg, rfl⟩
        obtain ⟨s1, hs1⟩ : ∃ s1, s.phi m.blocks.l[at_].p fr = s1 := ⟨_, rfl⟩
        have hRI4 := hRI3.out
        have hs10 : 0 ≤ s1.steps := by rw [← hs1]; exact hs0'.out
        rw [hs1] at hRI4
        have hRI5 := Lib.hid hRI4
        have hs1' := Lib.hid hs1
        have hs10' := Lib.hid hs10
        clear hRI4 hRI3 hs1 hs10 hCm'
        go_loopg [7, 50] (m.blocks.l[at_].ins.l.length) (fun g a q wr => ∃ (s2 : RS) (C2 : Sl (Jq.Event Sl)) (A2 : Sl Int) (k : Nat), k ≤ m.blocks.l[at_].ins.l.length ∧ g = m.blocks.l[at_].ins.l.length - k ∧ a = A2.val ∧ q = .int .i64 k ∧ RI m x R M ob (ob + 2) w wr s2 C2 A2 ∧ wr.heap[wq.heap.size]? = some (.cells (kMBlock.cs m.blocks.l[at_]).toArray 65 (0, 0)) ∧ insRun x.steps (m.blocks.l[at_].p.ins.drop k) s2 = insRun x.steps m.blocks.l[at_].p.ins s1 ∧ s1.steps ≤ s2.steps)
        case atStart => exact ⟨s1, C, A, 0, Nat.zero_le _, rfl, rfl, rfl, hRI5.out, hbb.out, rfl, Int.le_refl _⟩
        case round =>
          obtain ⟨s2, C2, A2, k, hk, hg, rfl, rfl, hRJ, hbx, hir, hsl⟩ := hrel
          have hRJ' := Lib.hid hRJ
          have hbx' := Lib.hid hbx
          have hir' := Lib.hid hir
          have hg2 := Lib.hid hg
          have hsl' := Lib.hid hsl
          have hs20 : 0 ≤ s2.steps := Int.le_trans hs10'.out hsl
          clear hRJ hbx hir hg hsl hbb hRI5
          by_cases hlt2 : k < m.blocks.l[at_].ins.l.length
          · obtain ⟨b3, o3, hat3, hb3, ⟨d0, d1, d2, d3, d4, d5, d6, d7⟩, hrm⟩ := getMach 63 40 Try.underlying63 (by kernel_rfl) (kMach.sl.below hrb'.out.2.1 hRJ'.out.below) k hlt2 rfl
            obtain ⟨e2, e3, e4, e5, e6⟩ := hRJ'.out.co
            have hrm' := Lib.hid hrm
            have hobl := (hRFx.out.bob).2
            have hobr : ob < wr.heap.size := lt_of_block hRJ'.out.bo
            have hinr : w.heap.size + 1 < wr.heap.size := lt_of_block hRJ'.out.bi
            clear hrm
            by_cases hout : x.steps ≤ s2.steps
            · have dd : decide (x.steps ≤ s2.steps) = true := by simpa using hout
              go_wp2_with fail
              clear hat3 d0 d1 d2 d3 d4 d5 d6 d7 e2 e3 e4 e5 e6
              have hRK := Lib.hid (hRJ'.out.go (bal (Below.refl _ _) (.cells (kMach.cs m.blocks.l[at_].ins.l[k]).toArray 40)))
              refine (runStop ob 3 0 0 0 s2.steps M C2 _ _ hRK.out.bo).mono ?_
              rintro e w6 ⟨rfl, hc⟩
              have hc' := Lib.hid hc
              obtain ⟨t0, t1, t2, t3, t4, t5⟩ := stop_facts hRFx.out hRK.out hc
              clear hc
              go_wp2_with fail
              have hins : insRun x.steps m.blocks.l[at_].p.ins s1 = (s2, some (3, 0)) := by rw [← hir'.out, drop_at _ k _ (ins_at m.blocks.l[at_] hlt2), insRun_out hout]
              have hw := runAt_stop (m := m.p) (lim := x.steps) (n := gn) (fr := fr) (s := s) (mb_at m hlt) (by rw [hs1'.out]; exact hins)
              exact run_done hRFx.out hRK.out hfe'.out (by rw [hwh'.out, ← hrun'.out, hgn'.out]; exact hw) hc'.out _ rfl
            · have dd : decide (x.steps ≤ s2.steps) = false := by simpa using hout
              have hlt3 : s2.steps < x.steps := by omega
              by_cases h28 : m.blocks.l[at_].ins.l[k].op = 28
              · rw [h28] at d0
                have hRS := hRJ'.out.step hRFx.out 4 rfl
                have hRK := Lib.hid (hRS.go (bal (Below.refl _ _) (.cells (kMach.cs m.blocks.l[at_].ins.l[k]).toArray 40)))
                clear hRS
                go_wp2_with fail
                clear hat3 d0 d1 d2 d3 d4 d5 d6 d7
                clear e2 e3 e4 e5 e6
                obtain ⟨W4, hW4⟩ : ∃ W4, W4 = (wr.setCell ⟨ob, 4, none⟩ (.int .i64 (s2.steps + 1))).alloc (.cells #[.int .i64 28, .int .i64 m.blocks.l[at_].ins.l[k].d, .int .i64 m.blocks.l[at_].ins.l[k].e, .int .i64 m.blocks.l[at_].ins.l[k].a, .int .i64 m.blocks.l[at_].ins.l[k].b, .int .i64 m.blocks.l[at_].ins.l[k].c, .int .i32 m.blocks.l[at_].ins.l[k].imm, m.blocks.l[at_].ins.l[k].args.val] 40) := ⟨_, rfl⟩
                have hs4 : W4.heap.size = wr.heap.size + 1 := by rw [hW4]; simp [World.setCell]
                have hRK4 := Lib.hid (show RI m x R M ob (ob + 2) w W4 s2.step C2 A2 from by
                  have h := hRK.out
                  simp only [kMach, h28] at h
                  rw [hW4]
                  exact h)
                have hbd := Lib.hid (show W4.heap[wr.heap.size]? = some (.cells [.int .i64 28, .int .i64 m.blocks.l[at_].ins.l[k].d, .int .i64 m.blocks.l[at_].ins.l[k].e, .int .i64 m.blocks.l[at_].ins.l[k].a, .int .i64 m.blocks.l[at_].ins.l[k].b, .int .i64 m.blocks.l[at_].ins.l[k].c, .int .i32 m.blocks.l[at_].ins.l[k].imm, m.blocks.l[at_].ins.l[k].args.val].toArray 40 (0, 0)) from by
                  rw [hW4]
                  have h := heap_alloc_new (wr.setCell ⟨ob, 4, none⟩ (.int .i64 (s2.steps + 1))) (.cells #[.int .i64 28, .int .i64 m.blocks.l[at_].ins.l[k].d, .int .i64 m.blocks.l[at_].ins.l[k].e, .int .i64 m.blocks.l[at_].ins.l[k].a, .int .i64 m.blocks.l[at_].ins.l[k].b, .int .i64 m.blocks.l[at_].ins.l[k].c, .int .i32 m.blocks.l[at_].ins.l[k].imm, m.blocks.l[at_].ins.l[k].args.val] 40)
                  simpa [World.setCell] using h)
                have hb4 := Lib.hid (show W4.heap[wq.heap.size]? = some (.cells (kMBlock.cs m.blocks.l[at_]).toArray 65 (0, 0)) from by
                  have h1 := lt_of_block hbx'.out
                  rw [hW4, Below.heap_alloc _ _ _ (by simpa [World.setCell] using h1), Below.heap_setCell _ _ _ _ (by have := hbbl.out; show wq.heap.size ≠ ob; omega)]
                  exact hbx'.out)
                have hcall := Lib.hid (hbok.out.call (Mach.p m.blocks.l[at_].ins.l[k]) (List.mem_of_getElem? (ins_at m.blocks.l[at_] hlt2)) h28)
                have hra := Lib.hid (show kI.sl.rd w m.blocks.l[at_].ins.l[k].args from hrb'.out.2.1.2.2.2 _ (List.getElem_mem hlt2))
                have hna : m.blocks.l[at_].ins.l[k].args.l.length ≤ 4 := hcall.out.2.2
                have hW5 : (wr.setCell ⟨ob, 4, none⟩ (.int .i64 (s2.steps + 1))).alloc (.cells #[.int .i64 28, .int .i64 m.blocks.l[at_].ins.l[k].d, .int .i64 m.blocks.l[at_].ins.l[k].e, .int .i64 m.blocks.l[at_].ins.l[k].a, .int .i64 m.blocks.l[at_].ins.l[k].b, .int .i64 m.blocks.l[at_].ins.l[k].c, .int .i32 m.blocks.l[at_].ins.l[k].imm, .slice m.blocks.l[at_].ins.l[k].args.A m.blocks.l[at_].ins.l[k].args.l.length m.blocks.l[at_].ins.l[k].args.cap] 40) = W4 := by rw [hW4]
                go_must (rw [hW5])
                have hs4' := Lib.hid hs4
                clear hW5 hW4 hRK
                go_must (rw [← hs4])
                clear hs4
                obtain ⟨wo, rfl⟩ : ∃ wo : World, wo = wr := ⟨_, rfl⟩
                go_loopg [72] (m.blocks.l[at_].ins.l[k].args.l.length) (fun g q wr => ∃ (j : Nat) (E : Sl Int), j ≤ m.blocks.l[at_].ins.l[k].args.l.length ∧ g = m.blocks.l[at_].ins.l[k].args.l.length - j ∧ q = .int .i64 j ∧ Below W4.heap.size W4 wr ∧ wr.heap[W4.heap.size]? = some (.cells [.int .i32 m.blocks.l[at_].ins.l[k].imm, E.val].toArray 56 (0, 0)) ∧ Own kW 21 (W4.heap.size + 1) wr E ∧ E.l = (m.blocks.l[at_].ins.l[k].args.l.take j).map (mget s2.regs))
                case atStart =>
                  refine ⟨0, nilSl, Nat.zero_le _, rfl, rfl, bal (Below.refl _ _) _, ?_, Own.nil _ _ _ _, rfl⟩
                  exact heap_alloc_new W4 _
                case round =>
                  obtain ⟨j, E, hj, hg, rfl, hBW, hbe, hE, hEl⟩ := hrel
                  have hBW' := Lib.hid hBW
                  have hbe' := Lib.hid hbe
                  have hE' := Lib.hid hE
                  have hEl' := Lib.hid hEl
                  have hg3 := Lib.hid hg
                  clear hBW hbe hE hEl hg
                  by_cases hlj : j < m.blocks.l[at_].ins.l[k].args.l.length
                  · have hBww := Lib.hid (bthen hRK4.out.below hBW'.out)
                    obtain ⟨b7, o7, hat7, hb7, hc7⟩ := getI 38 3 Try.underlying38 (by kernel_rfl) (kI.sl.below hra.out hBww.out) j hlj rfl
                    have hrr := hcall.out.1 _ (List.getElem_mem (l := m.blocks.l[at_].ins.l[k].args.l) hlj)
                    have hrl : s2.regs.length = 8192 := hRJ'.out.rlen.trans hRFx.out.rl
                    obtain ⟨rg, hrg⟩ : ∃ rg, m.blocks.l[at_].ins.l[k].args.l[j] = rg := ⟨_, rfl⟩
                    rw [hrg] at hc7 hrr
                    have hkr : rg.toNat < s2.regs.length := by omega
                    obtain ⟨b8, o8, hat8, hb8, hc8⟩ := getW 25 21 Try.underlying25 (by kernel_rfl) ((show Own kW 21 w.heap.size W4 (R.wl s2.regs) from hRK4.out.regs).below hBW'.out).rd rg (k := rg.toNat) hkr (by omega)
                    rw [Sl.wl_val hRJ'.out.rlen] at hat8
                    have hmg : (R.wl s2.regs).l[rg.toNat]'hkr = mget s2.regs rg := by
                      show s2.regs[rg.toNat] = _
                      rw [mget, if_neg (by omega)]
                      simp [List.getD_eq_getElem?_getD, hkr]
                    rw [hmg] at hc8
                    have hrg' := Lib.hid hrg
                    have g1 : wr.cell? ⟨W4.heap.size, 1, none⟩ = some E.val := by simp [World.cell?, hbe'.out]
                    clear hrg hmg hrl hrr
                    have hEn : E.l.length ≤ 4 := by rw [hEl'.out, List.length_map, List.length_take]; omega
                    have hlt4 := lt_of_block hbe'.out
                    obtain ⟨rv, hrv⟩ : ∃ rv, mget s2.regs rg = rv := ⟨_, rfl⟩
                    rw [hrv] at hc8
                    have hrv' := Lib.hid hrv
                    clear hrv
                    go_upto_region 21 with fail
                    go_region_law (refine step_app kW (by decide) kW_one (W4.heap.size + 1) rfl 25 21 _ _ rfl (.int .i32 0) 4 Try.underlying25 infoW' rfl (by decide) _ E ⟨some ⟨wr.heap.size, 0, none⟩, 1, [rv]⟩ rfl rfl (hE'.out.below (bal (Below.refl _ _).drew _)) (own_lit (.int .i32) 21 0 wr.drew [rv] (by simp) (by simp)).rd (by first | omega | (simp; done) | (simp; omega)) kW_apart (by simp only [List.length_singleton]; omega) ?_; intro E2 w9 hown hl hgr hat; have h9 := (hgr.block W4.heap.size (by first | omega | (simp; done) | (simp; omega)) (fun e => by have := hE'.out.ge _ e; omega)).trans (((bal (Below.refl _ _).drew (.cells #[.int .i32 rv] 21) : Below wr.heap.size wr _).block _ hlt4).trans hbe'.out); have q1 : w9.cell? ⟨W4.heap.size, 1, none⟩ = some E.val := (by simp [World.cell?, h9]); have q2 : w9.frozen? ⟨W4.heap.size, 1, none⟩ = false := (by simp [World.frozen?, h9]))
                    all_goals (go_wp2_with fail; go_roundg (m.blocks.l[at_].ins.l[k].args.l.length - (j + 1)))
                    all_goals first
                      | (have := hg3.out; show m.blocks.l[at_].ins.l[k].args.l.length - (j + 1) < _; omega)
                      | (refine ⟨j + 1, E2, by omega, rfl, by go_num, ?_, ?_, ?_, ?_⟩
                         · refine Below.setCell ?_ (by exact Nat.le_refl _) _
                           exact Below.grown (hBW'.out.trans ((bal (Below.refl _ _).drew (.cells #[.int .i32 rv] 21) : Below wr.heap.size wr _).mono (by omega))) hgr (by first | omega | (simp; done) | (simp; omega)) (fun q hq => by have := hE'.out.ge q hq.symm; omega)
                         · have h := heap_set_self (o := 1) (v := E2.val) h9
                           simpa [Sl.val, hl] using h
                         · refine hown.mv fun q hq => Below.heap_setCell _ _ _ _ ?_
                           rcases hq with hq | ⟨y, _, hq⟩
                           · have := hown.ge q hq
                             show q ≠ W4.heap.size
                             omega
                           · simp [kW, Kd.scalar] at hq
                         · rw [hl, hEl'.out, List.map_take, List.map_take]
                           show _ ++ [rv] = _
                           rw [← hrv'.out]
                           exact take_at _ j _ (by simp [hlj, hrg'.out]))
                  · have hjl : j = m.blocks.l[at_].ins.l[k].args.l.length := by omega
                    have hEa := Lib.hid (show E.l = m.blocks.l[at_].ins.l[k].args.l.map (mget s2.regs) by rw [hEl'.out, hjl, List.take_length])
                    clear hjl
                    have hRK6 := Lib.hid (hRK4.out.go hBW'.out)
                    obtain ⟨e2, e3, e4, e5, e6⟩ := hRK6.out.co
                    have v0 : wr.cell? ⟨W4.heap.size, 0, none⟩ = some (.int .i32 m.blocks.l[at_].ins.l[k].imm) := by simp [World.cell?, hbe'.out]
                    have v1 : wr.cell? ⟨W4.heap.size, 1, none⟩ = some E.val := by simp [World.cell?, hbe'.out]
                    have hx6 := Lib.hid (show kEvent.rd wr ⟨m.blocks.l[at_].ins.l[k].imm, E⟩ from hE'.out.rd)
                    have hEge := Lib.hid (show ∀ q, some q = E.val.ownBlock → W4.heap.size + 1 ≤ q from fun q hq => hE'.out.ge q hq)
                    have hC4 := Lib.hid (show ∀ q, some q = C2.val.ownBlock → q < wo.heap.size from fun q hq => hRJ'.out.calls.lt q (Or.inl hq))
                    have hCl := Lib.hid (show (C2.l.length : Int) ≤ s2.steps from by have h1 := hRJ'.out.cn; rw [← hRJ'.out.cl, List.length_map] at h1; exact h1)
                    have hobw : ob < wr.heap.size := Nat.lt_of_lt_of_le hobr (by have := hs4'.out; have := hBW'.out.size; omega)
                    go_upto_region 24 with (at_builtin; go_must (refine wpList_app kEvent (by decide) kEvent_one (ob + 2) rfl 31 56 _ _ rfl (.agg #[.int .i32 0, .slice none 0 0]) 32 Try.underlying31 infoEv rfl (by decide) _ C2 ⟨some ⟨wr.heap.size, 0, none⟩, 1, [⟨m.blocks.l[at_].ins.l[k].imm, E⟩]⟩ rfl rfl (hRK6.out.calls.below (bal (Below.refl _ _) _)) (event_lit wr _ 56 hx6.out) (by have := hRK6.out.size; simp; omega) (fun y hy q hq e => by rw [List.mem_singleton.1 hy] at hq; have h1 := hEge.out q (fpW hq); have h2 := hC4.out q e; have h3 := hs4'.out; omega) (by have h1 := hCl.out; simp only [List.length_singleton]; omega) ?_; intro C3 w9 hown hl hg hat; have hg' := Lib.hid hg; have hown' := Lib.hid hown; have hl' := Lib.hid hl; clear hown hl hg hat; have h9o := (hg'.out.block ob (by simp; omega) (fun e => by have := hRK6.out.calls.ge _ e; omega)).trans ((Below.heap_alloc _ _ _ hobw).trans hRK6.out.bo); have q5 : w9.frozen? ⟨ob, 3, none⟩ = false := (by simp [World.frozen?, h9o]); have q6 : w9.cell? ⟨ob, 3, none⟩ = some C2.val := (by simp [World.cell?, h9o]); clear h9o))
                    clear e2 e3 e4 e5 e6 v0 v1
                    have hal : some C3.val.ownBlock = some C3.val.ownBlock := rfl
                    clear hal
                    obtain ⟨W10, hW10⟩ : ∃ W10, W10 = w9.setCell ⟨ob, 3, none⟩ C3.val := ⟨_, rfl⟩
                    have hRQ := RI.call hRFx.out hRK4.out hBW'.out (bal (Below.refl _ _) (.cells (kEvent.cs ⟨m.blocks.l[at_].ins.l[k].imm, E⟩).toArray 56)) hg'.out hown'.out hl'.out hEge.out (by have := hRJ'.out.cn; show (s2.calls.length : Int) + 1 ≤ s2.steps + 1; omega) 3 rfl
                    have hk10 : ∀ q T cs, T ≠ 56 → q ≠ ob → W4.heap[q]? = some (.cells cs T (0, 0)) → W10.heap[q]? = some (.cells cs T (0, 0)) := by
                      intro q T cs hT hq hh
                      have hlq := lt_of_block hh
                      rw [hW10, Below.heap_setCell _ _ _ _ (by exact hq), hg'.out.block q (by have := hBW'.out.size; simp; omega) (fun e => own_ne hRK4.out.calls hh hT e.symm), Below.heap_alloc _ _ _ (by have := hBW'.out.size; omega), hBW'.out.block q hlq]
                      exact hh
                    have hbd10 := Lib.hid (hk10 wo.heap.size _ _ (by decide) (by omega) hbd.out)
                    have hb10 := Lib.hid (hk10 wq.heap.size _ _ (by decide) (by have := hbbl.out; omega) hb4.out)
                    rw [← hW10] at hRQ
                    go_must (rw [← hW10])
                    have hRQ' := Lib.hid hRQ
                    clear hk10 hRQ hW10 q5 q6 hg' hown' hl' hx6 hEge hC4 hCl hobw hE' hbe' hBW' hRK6 hbd hb4 hRK4
                    have i1 : W10.cell? ⟨wo.heap.size, 1, none⟩ = some (.int .i64 m.blocks.l[at_].ins.l[k].d) := by simp [World.cell?, hbd10.out]
                    have hrl : s2.regs.length = 8192 := hRJ'.out.rlen.trans hRFx.out.rl
                    obtain ⟨hd0, hd1⟩ := hcall.out.2.1
                    have hd0 : 0 ≤ m.blocks.l[at_].ins.l[k].d := hd0
                    have hd1 : m.blocks.l[at_].ins.l[k].d < 8192 := hd1
                    obtain ⟨g, hA, hbs, hgl, hc, hf, hog, hst⟩ := Own.setAt (show Own kW 21 w.heap.size W10 (R.wl s2.regs) from hRQ'.out.regs) m.blocks.l[at_].ins.l[k].d 0 ⟨hd0, by show _ < (s2.regs.length : Int); omega⟩
                    have hA : R.A = some ⟨g, 0, none⟩ := hA
                    rw [Sl.wl_val hRJ'.out.rlen] at hog
                    have hatR := Kd.run_index (P := Try.prog) 25 21 Try.underlying25 R g 0 1 hA (by kernel_rfl) m.blocks.l[at_].ins.l[k].d m.blocks.l[at_].ins.l[k].d.toNat (by omega) (by have := hRFx.out.rl; omega)
                    rw [Nat.zero_add, Nat.mul_one] at hatR
                    have hst' := Lib.hid hst
                    have hog' := Lib.hid hog
                    have hA' := Lib.hid hA
                    clear hst hog hA
                    go_upto_region 25 with fail
                    obtain ⟨W11, hW11⟩ : ∃ W11, W11 = W10.setCell ⟨g, m.blocks.l[at_].ins.l[k].d.toNat, none⟩ (.int .i32 0) := ⟨_, rfl⟩
                    have hgob := hRFx.out.r g hog'.out.symm
                    have hRT := RI.turnR hRFx.out hRQ'.out (rl := mset s2.regs m.blocks.l[at_].ins.l[k].d 0) hst'.out (by rw [mset_len]; exact hRJ'.out.rlen) ((Chg.refl _ _).set g m.blocks.l[at_].ins.l[k].d.toNat _ (Or.inl hog'.out.symm))
                    have hwl := hRJ'.out.size
                    have hbd11 := (Below.heap_setCell W10 ⟨g, m.blocks.l[at_].ins.l[k].d.toNat, none⟩ (.int .i32 0) wo.heap.size (by show wo.heap.size ≠ g; omega)).trans hbd10.out
                    have hb11 := (Below.heap_setCell W10 ⟨g, m.blocks.l[at_].ins.l[k].d.toNat, none⟩ (.int .i32 0) wq.heap.size (by have := hbbl.out; show wq.heap.size ≠ g; omega)).trans hb10.out
                    rw [← hW11] at hRT hbd11 hb11
                    go_must (rw [← hW11])
                    clear hc hf hgob i1 hW11
                    have hRT' := Lib.hid hRT
                    have hbd11' := Lib.hid hbd11
                    have hb11' := Lib.hid hb11
                    clear hRT hbd11 hb11 hRQ' hst' hbd10 hb10
                    rcases Nat.eq_zero_or_pos A2.l.length with hA0 | hA1
                    · have dn : decide (0 < A2.l.length) = false := by simpa using hA0
                      have hA0' := Lib.hid hA0
                      clear hA0
                      go_wp2_with fail
                      go_roundg (m.blocks.l[at_].ins.l.length - (k + 1))
                      case measure => have := hg2.out; omega
                      case rel =>
                        have hnil : s2.step.answers = [] := by show s2.answers = []; rw [← hRJ'.out.al]; exact List.eq_nil_of_length_eq_zero hA0'.out
                        refine ⟨callIns m.blocks.l[at_].ins.l[k].p s2.step, C3, A2, k + 1, by omega, rfl, rfl, by go_num, ?_, hb11'.out, ?_, ?_⟩
                        · rw [callIns_nil hnil]
                          have h := hRT'.out
                          rw [hEa.out] at h
                          exact h
                        · rw [← hir'.out, drop_at _ k _ (ins_at m.blocks.l[at_] hlt2), insRun_call hlt3 h28]
                        · show s1.steps ≤ s2.steps + 1
                          have := hsl'.out
                          omega
                    · have dn : decide (0 < A2.l.length) = true := by simpa using hA1
                      obtain ⟨b7, o7, hatA, hbA, hcA⟩ := getW 25 21 Try.underlying25 (by kernel_rfl) (kW.sl.below hRT'.out.ans hRT'.out.below) 0 (k := 0) (by omega) rfl
                      have htl := run_tail (P := Try.prog) 25 21 Try.underlying25 (by kernel_rfl) A2 (by omega) (Kd.cap_ (d := kW) hRT'.out.ans)
                      obtain ⟨av, hav⟩ : ∃ av, A2.l[0]'(by omega) = av := ⟨_, rfl⟩
                      rw [hav] at hcA
                      rw [Nat.add_zero] at hcA
                      simp only [Nat.add_zero] at hatA
                      obtain ⟨g2, hA2, hbs2, hgl2, hc2, hf2, hog2, hst2⟩ := Own.setAt (show Own kW 21 w.heap.size W11 (R.wl (mset s2.regs m.blocks.l[at_].ins.l[k].d 0)) from hRT'.out.regs) m.blocks.l[at_].ins.l[k].d av ⟨hd0, by show _ < ((mset s2.regs _ 0).length : Int); rw [mset_len]; omega⟩
                      have hA2 : R.A = some ⟨g2, 0, none⟩ := hA2
                      have hg12 : g2 = g := by rw [hA'.out] at hA2; injection hA2 with hA2; injection hA2 with hA2; exact hA2.symm
                      subst hg12
                      have i1 : W11.cell? ⟨wo.heap.size, 1, none⟩ = some (.int .i64 m.blocks.l[at_].ins.l[k].d) := by simp [World.cell?, hbd11'.out]
                      have hst2' := Lib.hid hst2
                      have hav' := Lib.hid hav
                      clear hst2 hav hog2 hA2
                      go_wp2_with fail
                      go_region
                      go_wp2_with fail
                      go_roundg (m.blocks.l[at_].ins.l.length - (k + 1))
                      case measure => have := hg2.out; omega
                      case rel =>
                        have hcons : s2.step.answers = av :: A2.tl.l := by
                          show s2.answers = av :: A2.l.tail
                          rw [← hRJ'.out.al, ← hav'.out]
                          exact cons_of A2.l hA1
                        refine ⟨callIns m.blocks.l[at_].ins.l[k].p s2.step, C3, A2.tl, k + 1, by omega, rfl, rfl, by go_num, ?_, ?_, ?_, ?_⟩
                        · rw [callIns_cons hcons]
                          have hRU := RI.turnR hRFx.out hRT'.out (rl := mset (mset s2.regs m.blocks.l[at_].ins.l[k].d 0) m.blocks.l[at_].ins.l[k].d av) hst2'.out (by rw [mset_len, mset_len]; exact hRJ'.out.rlen) ((Chg.refl _ _).set _ m.blocks.l[at_].ins.l[k].d.toNat _ (Or.inl hog'.out.symm))
                          have h := (hRU.answer (tl_rd hRT'.out.ans hA1)).go (Below.refl _ _).drew
                          rw [hEa.out] at h
                          exact h
                        · refine (Below.heap_setCell W11 _ _ wq.heap.size ?_).trans hb11'.out
                          have h1 := (hRFx.out.r _ hog'.out.symm).2.1
                          have h2 := hbbl.out
                          show wq.heap.size ≠ g2
                          omega
                        · rw [← hir'.out, drop_at _ k _ (ins_at m.blocks.l[at_] hlt2), insRun_call hlt3 h28]
                        · show s1.steps ≤ s2.steps + 1
                          have := hsl'.out
                          omega
              · have d28 : (m.blocks.l[at_].ins.l[k].op == 28) = false := by simpa using h28
                go_wp2_with fail
                clear hat3 d0 d1 d2 d3 d4 d5 d6 d7 e2 e3 e4 e5 e6
                have hRS := hRJ'.out.step hRFx.out 4 rfl
                have hRK := Lib.hid (hRS.go (bal (Below.refl _ _) (.cells (kMach.cs m.blocks.l[at_].ins.l[k]).toArray 40)))
                have hbK := Lib.hid (show ((wr.setCell ⟨ob, 4, none⟩ (.int .i64 (s2.steps + 1))).alloc (.cells (kMach.cs m.blocks.l[at_].ins.l[k]).toArray 40)).heap[wq.heap.size]? = some (.cells (kMBlock.cs m.blocks.l[at_]).toArray 65 (0, 0)) from by
                  have h1 := lt_of_block hbx'.out
                  rw [Below.heap_alloc _ _ _ (by simpa [World.setCell] using h1), Below.heap_setCell _ _ _ _ (by have := hbbl.out; show wq.heap.size ≠ ob; omega)]
                  exact hbx'.out)
                clear hRS
                have hdo := machDo m.blocks.l[at_].ins.l[k] (R.wl s2.regs) (M.wl s2.mem) w.heap.size _ hRK.out.regs hRK.out.mem (by rw [Sl.wl_val hRJ'.out.rlen, Sl.wl_val hRJ'.out.mlen]; exact RI.apart hRFx.out)
                rw [Sl.wl_val hRJ'.out.rlen, Sl.wl_val hRJ'.out.mlen, DoF_wl hRJ'.out.rlen hRJ'.out.mlen] at hdo
                refine hdo.mono ?_
                rintro e w7 ⟨he, ho1, ho2, hc⟩
                have he : e = .returned (.tuple #[.int .i32 (mdo m.blocks.l[at_].ins.l[k].p s2.regs s2.mem).1.1, .bool (mdo m.blocks.l[at_].ins.l[k].p s2.regs s2.mem).1.2]) := he
                subst he
                have hln := mdo_len m.blocks.l[at_].ins.l[k].p s2.regs s2.mem
                have hRL := Lib.hid (show RI m x R M ob (ob + 2) w w7 (doIns m.blocks.l[at_].ins.l[k].p s2.step) C2 A2 from RI.turn hRFx.out hRK.out ho1 ho2 (hln.1.trans hRJ'.out.rlen) (hln.2.trans hRJ'.out.mlen) hc)
                have hbL := Lib.hid (show w7.heap[wq.heap.size]? = some (.cells (kMBlock.cs m.blocks.l[at_]).toArray 65 (0, 0)) from by
                  refine (hc.block _ (lt_of_block hbK.out) fun e => ?_).trans hbK.out
                  have h1 := hbbl.out
                  rcases e with e | e
                  · have := (hRFx.out.r _ e).2.1; omega
                  · have := (hRFx.out.m _ e).2.1; omega)
                clear hdo ho1 ho2 hc hln
                obtain ⟨dv, hdv⟩ : ∃ dv, (mdo m.blocks.l[at_].ins.l[k].p s2.regs s2.mem).1.1 = dv := ⟨_, rfl⟩
                rw [hdv]
                have hdv' := Lib.hid hdv
                clear hdv
                cases hdo : (mdo m.blocks.l[at_].ins.l[k].p s2.regs s2.mem).1.2 with
                | true =>
                  have hdo' := Lib.hid hdo
                  clear hdo
                  go_wp2_with fail
                  go_roundg (m.blocks.l[at_].ins.l.length - (k + 1))
                  case measure => have := hg2.out; omega
                  case rel =>
                    refine ⟨doIns m.blocks.l[at_].ins.l[k].p s2.step, C2, A2, k + 1, by omega, rfl, rfl, by go_num, hRL.out, hbL.out, ?_, ?_⟩
                    · rw [← hir'.out, drop_at _ k _ (ins_at m.blocks.l[at_] hlt2), insRun_go hlt3 h28 hdo'.out]
                    · show s1.steps ≤ s2.steps + 1
                      have := hsl'.out
                      omega
                | false =>
                  have hdo' := Lib.hid hdo
                  clear hdo
                  go_wp2_with fail
                  refine (runStop ob 2 dv 0 0 (s2.steps + 1) M C2 _ _ hRL.out.bo).mono ?_
                  rintro e w8 ⟨rfl, hc⟩
                  have hc' := Lib.hid hc
                  obtain ⟨t0, t1, t2, t3, t4, t5⟩ := stop_facts hRFx.out hRL.out hc
                  clear hc
                  go_wp2_with fail
                  have hins : insRun x.steps m.blocks.l[at_].p.ins s1 = (doIns m.blocks.l[at_].ins.l[k].p s2.step, some (2, dv)) := by rw [← hir'.out, drop_at _ k _ (ins_at m.blocks.l[at_] hlt2), insRun_trap hlt3 h28 hdo'.out, hdv'.out]
                  have hw := runAt_stop (m := m.p) (lim := x.steps) (n := gn) (fr := fr) (s := s) (mb_at m hlt) (by rw [hs1'.out]; exact hins)
                  exact run_done hRFx.out hRL.out hfe'.out (by rw [hwh'.out, ← hrun'.out, hgn'.out]; exact hw) hc'.out _ rfl
          · have hkl : k = m.blocks.l[at_].ins.l.length := by omega
            subst hkl
            have hins := Lib.hid (show insRun x.steps m.blocks.l[at_].p.ins s1 = (s2, none) by
              rw [← hir'.out, List.drop_eq_nil_of_le (by simp only [MBlock.p, List.length_map]; exact Nat.le_refl _)]; rfl)
            obtain ⟨e2, e3, e4, e5, e6⟩ := hRJ'.out.co
            have hobb : ob < wq.heap.size := by have := hbbl.out; omega
            have hobr : ob < wr.heap.size := lt_of_block hRJ'.out.bo
            have hinr : w.heap.size + 1 < wr.heap.size := lt_of_block hRJ'.out.bi
            by_cases hout : x.steps ≤ s2.steps
            · have dd : decide (x.steps ≤ s2.steps) = true := by simpa using hout
              go_wp2_with fail
              clear e2 e3 e4 e5 e6
              refine (runStop ob 3 0 0 0 s2.steps M C2 _ _ hRJ'.out.bo).mono ?_
              rintro e w6 ⟨rfl, hc⟩
              have hc' := Lib.hid hc
              obtain ⟨t0, t1, t2, t3, t4, t5⟩ := stop_facts hRFx.out hRJ'.out hc
              clear hc
              go_wp2_with fail
              have hw := runAt_out (m := m.p) (lim := x.steps) (n := gn) (fr := fr) (s := s) (mb_at m hlt) (by rw [hs1'.out]; exact hins.out) hout
              exact run_done hRFx.out hRJ'.out hfe'.out (by rw [hwh'.out, ← hrun'.out, hgn'.out]; exact hw) hc'.out _ rfl
            · have dd : decide (x.steps ≤ s2.steps) = false := by simpa using hout
              have hlt3 : s2.steps < x.steps := by omega
              have hRS := hRJ'.out.step hRFx.out 4 rfl
              have hbS : (wr.setCell ⟨ob, 4, none⟩ (.int .i64 (s2.steps + 1))).heap[wq.heap.size]? = some (.cells (kMBlock.cs m.blocks.l[at_]).toArray 65 (0, 0)) := by
                rw [Below.heap_setCell _ _ _ _ (by show wq.heap.size ≠ ob; omega)]
                exact hbx'.out
              have x2 : (wr.setCell ⟨ob, 4, none⟩ (.int .i64 (s2.steps + 1))).cell? ⟨wq.heap.size, 2, none⟩ = some (.int .i64 m.blocks.l[at_].fin.op) := by simp only [World.cell?, hbS]; rfl
              have x3 : (wr.setCell ⟨ob, 4, none⟩ (.int .i64 (s2.steps + 1))).cell? ⟨wq.heap.size, 3, none⟩ = some (.int .i64 m.blocks.l[at_].fin.a) := by simp only [World.cell?, hbS]; rfl
              have x6 : (wr.setCell ⟨ob, 4, none⟩ (.int .i64 (s2.steps + 1))).cell? ⟨wq.heap.size, 6, none⟩ = some (.int .i32 m.blocks.l[at_].fin.imm) := by simp only [World.cell?, hbS]; rfl
              have hRK := Lib.hid hRS
              have hbK := Lib.hid hbS
              obtain ⟨W6, hW6⟩ : ∃ W6, wr.setCell ⟨ob, 4, none⟩ (.int .i64 (s2.steps + 1)) = W6 := ⟨_, rfl⟩
              rw [hW6] at hRK hbK x2 x3 x6
              clear hRS hbS
              by_cases h7 : m.blocks.l[at_].fin.op = 7
              · have x2' := x2
                rw [h7] at x2'
                clear x2
                go_wp2_with fail
                have hgt := machGet (R.wl s2.regs) m.blocks.l[at_].fin.a W6 (show Own kW 21 w.heap.size W6 (R.wl s2.regs) from hRK.out.regs).rd
                rw [Sl.wl_val hRJ'.out.rlen] at hgt
                refine hgt.mono ?_
                rintro e w7 ⟨he, hw7⟩
                have he : e = .returned (.int .i32 (mget s2.regs m.blocks.l[at_].fin.a)) := he
                subst he
                subst hw7
                clear hgt
                go_wp2_with fail
                refine (runStop ob 1 (mget s2.regs m.blocks.l[at_].fin.a) 0 0 (s2.steps + 1) M C2 _ _ hRK.out.bo).mono ?_
                rintro e w8 ⟨rfl, hc⟩
                have hc' := Lib.hid hc
                obtain ⟨t0, t1, t2, t3, t4, t5⟩ := stop_facts hRFx.out hRK.out hc
                clear hc
                go_wp2_with fail
                have hw := runAt_ret (m := m.p) (lim := x.steps) (n := gn) (fr := fr) (s := s) (mb_at m hlt) (by rw [hs1'.out]; exact hins.out) hlt3 h7
                exact run_done hRFx.out hRK.out hfe'.out (by rw [hwh'.out, ← hrun'.out, hgn'.out]; exact hw) hc'.out _ rfl
              · by_cases h8 : m.blocks.l[at_].fin.op = 8
                · have x2' := x2
                  rw [h8] at x2'
                  clear x2
                  go_wp2_with fail
                  refine (runStop ob 2 m.blocks.l[at_].fin.imm 0 0 (s2.steps + 1) M C2 _ _ hRK.out.bo).mono ?_
                  rintro e w8 ⟨rfl, hc⟩
                  have hc' := Lib.hid hc
                  obtain ⟨t0, t1, t2, t3, t4, t5⟩ := stop_facts hRFx.out hRK.out hc
                  clear hc
                  go_wp2_with fail
                  have hw := runAt_trap (m := m.p) (lim := x.steps) (n := gn) (fr := fr) (s := s) (mb_at m hlt) (by rw [hs1'.out]; exact hins.out) hlt3 h8
                  exact run_done hRFx.out hRK.out hfe'.out (by rw [hwh'.out, ← hrun'.out, hgn'.out]; exact hw) hc'.out _ rfl
                · have d7 : (m.blocks.l[at_].fin.op == 7) = false := by simpa using h7
                  have d8 : (m.blocks.l[at_].fin.op == 8) = false := by simpa using h8
                  obtain ⟨j, hj, hgo, hgd, hj1, hCm⟩ := Came.next hok.out (mb_at m hlt) s2.regs h7 h8
                  have hj2 : j < m.blocks.l[at_].fin.to.l.length := hj
                  have hgo2 : goesOf m.blocks.l[at_].fin.p s2.regs = (j : Int) := hgo
                  have hj12 : 1 ≤ m.blocks.l[at_].fin.to.l[j] := hj1
                  have hCm2 := Lib.hid (show Came m.p (m.blocks.l[at_].fin.to.l[j]).toNat (at_ : Int) from hCm)
                  have hgd2 := Lib.hid (show m.blocks.l[at_].p.fin.to.getD (goesOf m.blocks.l[at_].p.fin s2.regs).toNat 0 = m.blocks.l[at_].fin.to.l[j] from hgd)
                  obtain ⟨b9, o9, hat9, hb9, hc9⟩ := getI 38 3 Try.underlying38 (by kernel_rfl) hrb'.out.2.2 j hj2 rfl
                  have hSS := Lib.hid (show ∀ W, Below W6.heap.size W6 W → W.cell? ⟨wq.heap.size, 2, none⟩ = some (.int .i64 m.blocks.l[at_].fin.op) ∧ W.cell? ⟨wq.heap.size, 3, none⟩ = some (.int .i64 m.blocks.l[at_].fin.a) ∧ W.cell? ⟨wq.heap.size, 4, none⟩ = some (.int .i64 m.blocks.l[at_].fin.b) ∧ W.cell? ⟨wq.heap.size, 5, none⟩ = some m.blocks.l[at_].fin.to.val ∧ W.cell? ⟨wq.heap.size, 6, none⟩ = some (.int .i32 m.blocks.l[at_].fin.imm) ∧ W.cell? ⟨b9, o9 + j, none⟩ = some (.int .i64 m.blocks.l[at_].fin.to.l[j]) from fun W hW => by
                    have h1 := (hW.block _ (lt_of_block hbK.out)).trans hbK.out
                    refine ⟨?_, ?_, ?_, ?_, ?_, ?_⟩
                    · simp only [World.cell?, h1]; rfl
                    · simp only [World.cell?, h1]; rfl
                    · simp only [World.cell?, h1]; rfl
                    · simp only [World.cell?, h1]; rfl
                    · simp only [World.cell?, h1]; rfl
                    · exact ((bthen hRK.out.below hW).cell (p := ⟨b9, o9 + j, none⟩) hb9).trans hc9)
                  obtain ⟨y2, y3, y4, y5, y6, y7⟩ := hSS.out W6 (Below.refl _ _)
                  have hgs := machGoes m.blocks.l[at_].fin (R.wl s2.regs)
                  rw [Sl.wl_val hRJ'.out.rlen] at hgs
                  clear hgo hj1 hCm hgd hc9 hj x2 x3 x6
                  go_wp2_with fail
                  go_region_held3 (fun w' => w'.cell? ⟨wq.heap.size, 2, none⟩ = some (.int .i64 m.blocks.l[at_].fin.op) ∧ w'.cell? ⟨wq.heap.size, 3, none⟩ = some (.int .i64 m.blocks.l[at_].fin.a) ∧ w'.cell? ⟨wq.heap.size, 4, none⟩ = some (.int .i64 m.blocks.l[at_].fin.b) ∧ w'.cell? ⟨wq.heap.size, 5, none⟩ = some m.blocks.l[at_].fin.to.val ∧ w'.cell? ⟨wq.heap.size, 6, none⟩ = some (.int .i32 m.blocks.l[at_].fin.imm) ∧ w'.cell? ⟨b9, o9 + j, none⟩ = some (.int .i64 m.blocks.l[at_].fin.to.l[j])) (first | go_keep | exact ⟨by assumption, by assumption, by assumption, by assumption, by assumption, by assumption⟩) (first | (go_at_call 46; refine (hgs _ (kEnd.below hrb'.out.2.2 (bthen hRK.out.below (by repeat (first | exact Below.refl _ _ | refine Below.drew ?_)))) (show Own kW 21 w.heap.size _ (R.wl s2.regs) from hRK.out.regs.below (by repeat (first | exact Below.refl _ _ | refine Below.drew ?_))).rd).mono ?_; rintro e w9 ⟨he, hb9'⟩; rw [show goesOf m.blocks.l[at_].fin.p (R.wl s2.regs).l = (j : Int) from hgo2] at he; subst he; have hB := Lib.hid (show Below W6.heap.size W6 w9 from bthen (by repeat (first | exact Below.refl _ _ | refine Below.drew ?_)) hb9'); obtain ⟨z2, z3, z4, z5, z6, z7⟩ := hSS.out w9 hB.out; clear hb9'))
                  go_wp2_with fail
                  go_roundg gn
                  case measure => have := hgn'.out; omega
                  case rel =>
                    refine ⟨s2.step, C2, A2, (m.blocks.l[at_].fin.to.l[j]).toNat, at_, rfl, by rw [Int.toNat_of_nonneg (by omega)], rfl, hRK.out.go hB.out, hCm2.out, ?_, ?_, ?_⟩
                    · rw [← hrun'.out, hgn'.out, runAt_go (mb_at m hlt) (by rw [hs1'.out]; exact hins.out) hlt3 h7 h8, hgd2.out]
                    · show (x.steps - (s2.steps + 1)).toNat < gn
                      have h1 := hfuel'.out
                      have h2 := hsl'.out
                      have h3 := hgn'.out
                      have h4 : s1.steps = s.steps := by rw [← hs1'.out]; rfl
                      omega
                    · show 0 ≤ s2.steps + 1
                      omega
end Go.Proofs.Ytjlehpgfhlkjlaa
