/-
  mach.Do.
-/
import Derived.Test.YtjlehpgfhlkjlaaSet
import Derived.Test.YtjlehpgfhlkjlaaTakes2
import Derived.Test.YtjlehpgfhlkjlaaWord
import Derived.Test.YtjlehpgfhlkjlaaWord2
import Derived.Deep.Cut
import Derived.Deep.DeepCutAuto
import Derived.Deep.CutBlock
set_option linter.all false
namespace Go.Proofs.Ytjlehpgfhlkjlaa
open Go.RowKit Jq Go.Deep
set_option linter.unusedVariables false
def DoF (R M : Sl Int) (k : Nat) : Prop := some k = R.val.ownBlock ∨ some k = M.val.ownBlock
/-- What mach.Do holds. -/
structure DI (i : Mach Sl) (R M : Sl Int) (base : Nat) (w wr : World) (rl ml : List Int) : Prop where
  regs : Own kW 21 base wr (R.wl rl)
  rlen : rl.length = R.l.length
  mem : Own kW 21 base wr (M.wl ml)
  mlen : ml.length = M.l.length
  bi : wr.heap[w.heap.size]? = some (.cells (kMach.cs i).toArray 40 (0, 0))
  br : wr.heap[w.heap.size + 1]? = some (.cells #[R.val] 25 (0, 0))
  chg : Chg (DoF R M) w wr
theorem DI.lt {i : Mach Sl} {R M : Sl Int} {base : Nat} {w wr : World} {rl ml : List Int} (h : DI i R M base w wr rl ml) : w.heap.size + 1 < wr.heap.size := (Array.getElem?_eq_some_iff.1 h.br).1
theorem DI.go {i : Mach Sl} {R M : Sl Int} {base : Nat} {w wr w1 : World} {rl ml : List Int} (h : DI i R M base w wr rl ml) (hb : Below wr.heap.size wr w1) : DI i R M base w w1 rl ml :=
  ⟨h.regs.below hb, h.rlen, h.mem.below hb, h.mlen, (hb.block _ (by have := h.lt; omega)).trans h.bi, (hb.block _ h.lt).trans h.br, h.chg.below hb⟩
theorem DI.ci {i : Mach Sl} {R M : Sl Int} {base : Nat} {w wr : World} {rl ml : List Int} (h : DI i R M base w wr rl ml) :
    wr.cell? ⟨w.heap.size, 0, none⟩ = some (.int .i64 i.op) ∧ wr.cell? ⟨w.heap.size, 1, none⟩ = some (.int .i64 i.d) ∧ wr.cell? ⟨w.heap.size, 2, none⟩ = some (.int .i64 i.e) ∧ wr.cell? ⟨w.heap.size, 3, none⟩ = some (.int .i64 i.a) ∧ wr.cell? ⟨w.heap.size, 4, none⟩ = some (.int .i64 i.b) ∧ wr.cell? ⟨w.heap.size, 5, none⟩ = some (.int .i64 i.c) ∧ wr.cell? ⟨w.heap.size, 6, none⟩ = some (.int .i32 i.imm) ∧ wr.cell? ⟨w.heap.size, 7, none⟩ = some i.args.val ∧ wr.cell? ⟨w.heap.size + 1, 0, none⟩ = some R.val := by
  refine ⟨?_, ?_, ?_, ?_, ?_, ?_, ?_, ?_, ?_⟩ <;> simp [World.cell?, h.bi, h.br, kMach]
/-- A register has been set. -/
theorem DI.setR {i : Mach Sl} {R M : Sl Int} {base : Nat} {w wr w1 : World} {rl rl' ml : List Int} (h : DI i R M base w wr rl ml) (hne : R.val.ownBlock = none ∨ R.val.ownBlock ≠ M.val.ownBlock) (hlt : ∀ k, some k = R.val.ownBlock → k < w.heap.size)
    (ho : Own kW 21 base w1 (R.wl rl')) (hl : rl'.length = R.l.length) (hc : Chg (fun k => some k = (R.wl rl).val.ownBlock) wr w1) : DI i R M base w w1 rl' ml := by
  have hv : (R.wl rl).val = R.val := Sl.wl_val h.rlen
  rw [hv] at hc
  have hm : (M.wl ml).val = M.val := Sl.wl_val h.mlen
  refine ⟨ho, hl, h.mem.mv fun k hk => ?_, h.mlen, ?_, ?_, h.chg.trans (hc.mono fun k hk => Or.inl hk)⟩
  · rcases hk with hk | ⟨x, _, hk⟩
    · refine hc.block k (h.mem.lt k (Or.inl hk)) fun e => ?_
      rw [hm] at hk
      rcases hne with hne | hne
      · rw [hne] at e; exact absurd e (by simp)
      · exact hne (by rw [← e, ← hk])
    · simp [kW, Kd.scalar] at hk
  · exact (hc.block _ (by have := h.lt; omega) fun e => by have := hlt _ e; omega).trans h.bi
  · exact (hc.block _ h.lt fun e => by have := hlt _ e; omega).trans h.br
/-- A word of memory has been written. -/
theorem DI.setM {i : Mach Sl} {R M : Sl Int} {base : Nat} {w wr w1 : World} {rl ml ml' : List Int} (h : DI i R M base w wr rl ml) (hne : R.val.ownBlock = none ∨ R.val.ownBlock ≠ M.val.ownBlock) (hlt : ∀ k, some k = M.val.ownBlock → k < w.heap.size)
    (ho : Own kW 21 base w1 (M.wl ml')) (hl : ml'.length = M.l.length) (hc : Chg (fun k => some k = (M.wl ml).val.ownBlock) wr w1) : DI i R M base w w1 rl ml' := by
  have hv : (R.wl rl).val = R.val := Sl.wl_val h.rlen
  have hm : (M.wl ml).val = M.val := Sl.wl_val h.mlen
  rw [hm] at hc
  refine ⟨h.regs.mv fun k hk => ?_, h.rlen, ho, hl, ?_, ?_, h.chg.trans (hc.mono fun k hk => Or.inr hk)⟩
  · rcases hk with hk | ⟨x, _, hk⟩
    · refine hc.block k (h.regs.lt k (Or.inl hk)) fun e => ?_
      rw [hv] at hk
      rcases hne with hne | hne
      · rw [hne] at hk; exact absurd hk (by simp)
      · exact hne (by rw [← e, ← hk])
    · simp [kW, Kd.scalar] at hk
  · exact (hc.block _ (by have := h.lt; omega) fun e => by have := hlt _ e; omega).trans h.bi
  · exact (hc.block _ h.lt fun e => by have := hlt _ e; omega).trans h.br

theorem arrAt0 : ∀ W, (Instr.index 50 (.agg #[.int .i64 2, .int .i64 5, .int .i64 8, .int .i64 9, .int .i64 10]) (.int .i64 (IntKind.i64.wrap 0))).run Try.prog W = .ok (.int .i64 2) W := fun W => by kernel_rfl
theorem arrAt1 : ∀ W, (Instr.index 50 (.agg #[.int .i64 2, .int .i64 5, .int .i64 8, .int .i64 9, .int .i64 10]) (.int .i64 (IntKind.i64.wrap 1))).run Try.prog W = .ok (.int .i64 5) W := fun W => by kernel_rfl
theorem arrAt2 : ∀ W, (Instr.index 50 (.agg #[.int .i64 2, .int .i64 5, .int .i64 8, .int .i64 9, .int .i64 10]) (.int .i64 (IntKind.i64.wrap 2))).run Try.prog W = .ok (.int .i64 8) W := fun W => by kernel_rfl
theorem arrAt3 : ∀ W, (Instr.index 50 (.agg #[.int .i64 2, .int .i64 5, .int .i64 8, .int .i64 9, .int .i64 10]) (.int .i64 (IntKind.i64.wrap 3))).run Try.prog W = .ok (.int .i64 9) W := fun W => by kernel_rfl
theorem arrAt4 : ∀ W, (Instr.index 50 (.agg #[.int .i64 2, .int .i64 5, .int .i64 8, .int .i64 9, .int .i64 10]) (.int .i64 (IntKind.i64.wrap 4))).run Try.prog W = .ok (.int .i64 10) W := fun W => by kernel_rfl
set_option maxRecDepth 1000000 in
set_option maxHeartbeats 8000000 in
/-- 'mach.Do'. -/
theorem machDo (i : Mach Sl) (R M : Sl Int) (base : Nat) (w : World) (hR : Own kW 21 base w R) (hM : Own kW 21 base w M) (hne : R.val.ownBlock = none ∨ R.val.ownBlock ≠ M.val.ownBlock) :
    Calls Try.prog 26 #[i.v, R.val, M.val] w fun e w' => e = .returned (.tuple #[.int .i32 (mdo i.p R.l M.l).1.1, .bool (mdo i.p R.l M.l).1.2]) ∧ Own kW 21 base w' (R.wl (mdo i.p R.l M.l).2.1) ∧ Own kW 21 base w' (M.wl (mdo i.p R.l M.l).2.2) ∧ Chg (DoF R M) w w' := by
  have hR' := Lib.hid hR
  have hM' := Lib.hid hM
  have hne' := Lib.hid hne
  clear hR hM hne
  go_enter Try.func26, Try.ntmps26
  go_wp2_with fail
  obtain ⟨W0, hW0⟩ : ∃ W0, W0 = (w.alloc (.cells #[.int .i64 i.op, .int .i64 i.d, .int .i64 i.e, .int .i64 i.a, .int .i64 i.b, .int .i64 i.c, .int .i32 i.imm, i.args.val] 40)).alloc (.cells #[R.val] 25) := ⟨_, rfl⟩
  have hD : DI i R M base w W0 R.l M.l := by
    subst hW0
    have hb : Below w.heap.size w ((w.alloc (.cells #[.int .i64 i.op, .int .i64 i.d, .int .i64 i.e, .int .i64 i.a, .int .i64 i.b, .int .i64 i.c, .int .i32 i.imm, i.args.val] 40)).alloc (.cells #[R.val] 25)) := bal (bal (Below.refl _ _) _) _
    refine ⟨hR'.out.below hb, rfl, hM'.out.below hb, rfl, ?_, ?_, Chg.of hb⟩
    · rw [Below.heap_alloc _ _ _ (by simp)]
      exact heap_alloc_new w _
    · have h := heap_alloc_new (w.alloc (.cells #[.int .i64 i.op, .int .i64 i.d, .int .i64 i.e, .int .i64 i.a, .int .i64 i.b, .int .i64 i.c, .int .i32 i.imm, i.args.val] 40)) (.cells #[R.val] 25)
      simpa using h
  have hD' := Lib.hid hD
  obtain ⟨c0, c1, c2, c3, c4, c5, c6, c7, c8⟩ := hD.ci
  have hRD' := Lib.hid (show ∀ W, Below W0.heap.size W0 W → kW.sl.rd W R from fun W hW => (hD.regs.below hW).rd)
  have hDn := Lib.hid (hD.go (Below.refl _ _).drew)
  clear hD
  go_must (rw [← hW0])
  clear hW0
  go_region_held3 (fun w' => w'.cell? ⟨w.heap.size, 3, none⟩ = some (.int .i64 i.a) ∧ w'.cell? ⟨w.heap.size, 4, none⟩ = some (.int .i64 i.b) ∧ w'.cell? ⟨w.heap.size, 5, none⟩ = some (.int .i64 i.c) ∧ w'.cell? ⟨w.heap.size + 1, 0, none⟩ = some R.val) (first | go_keep | exact ⟨by assumption, by assumption, by assumption, by assumption⟩) (first | (go_at_call 45; refine (machGet R _ _ (hRD'.out _ (by repeat (first | exact Below.refl _ _ | refine Below.drew ?_)))).mono ?_; rintro e w1 ⟨rfl, rfl⟩))
  go_upto_block 0 with fail
  clear c0 c1 c2 c3 c4 c5 c6 c7 c8 hD' hRD'
  obtain ⟨W1, hW1⟩ : ∃ W1, W1 = W0.drew := ⟨_, rfl⟩
  go_must (rw [← hW1])
  rw [← hW1] at hDn
  clear hW1
  have hw1 : wrap64 (wrap32 (mget R.l i.a + i.imm)) = wrap32 (mget R.l i.a + i.imm) := wrap32_64 _
  have hw2 : wrap64 (wrap32 (mget R.l i.a + mget R.l i.b)) = wrap32 (mget R.l i.a + mget R.l i.b) := wrap32_64 _
  have hlt' := Lib.hid (show (∀ k, some k = R.val.ownBlock → k < w.heap.size) ∧ (∀ k, some k = M.val.ownBlock → k < w.heap.size) from ⟨fun k hk => hR'.out.lt k (Or.inl hk), fun k hk => hM'.out.lt k (Or.inl hk)⟩)
  go_cut [12, 13, 14] (fun v t o wx => ∃ (vv tt : Int) (oo : Bool) (ml : List Int), v = .int .i32 vv ∧ t = .int .i32 tt ∧ o = .bool oo ∧ DI i R M base w wx R.l ml ∧ (tt = 0 ∨ tt = -1) ∧ mdo i.p R.l M.l = if oo = true then ((0, true), setAll R.l (makes i.p) vv, ml) else ((if tt = 0 then -2 else -1, false), R.l, ml))
  case first =>
    obtain ⟨c0, c1, c2, c3, c4, c5, c6, c7, c8⟩ := hDn.out.ci
    have hop : i.op = 1 ∨ i.op = 2 ∨ i.op = 3 ∨ i.op = 4 ∨ (5 ≤ i.op ∧ i.op ≤ 17) ∨ i.op = 18 ∨ i.op = 19 ∨ i.op = 20 ∨ i.op = 21 ∨ i.op = 22 ∨ i.op = 23 ∨ i.op = 24 ∨ i.op = 25 ∨ i.op = 26 ∨ i.op = 27 ∨ i.op = 29 ∨ (i.op < 1 ∨ i.op = 28 ∨ 29 < i.op) := by omega
    rcases hop with hop | hop | hop | hop | hop | hop | hop | hop | hop | hop | hop | hop | hop | hop | hop | hop | hop
    case inl =>
      rw [hop] at c0
      go_wp2_with fail
      go_meet
      exact ⟨_, _, _, _, rfl, rfl, rfl, hDn.out, Or.inl rfl, mdo_arm (i := i.p) (by show i.op ≠ 2 ∧ i.op ≠ 29 ∧ ¬ (i.op < 1 ∨ i.op = 28 ∨ 29 < i.op); omega) (by show mval i.op (mget R.l i.a) (mget R.l i.b) (mget R.l i.c) i.imm M.l = _; rw [hop]; simp [mval]) (by show (0 : Int) = if 5 ≤ i.op ∧ i.op ≤ 17 then -1 else 0; rw [if_neg (by omega)])⟩
    case inr.inl =>
      rw [hop] at c0
      have em := Lib.hid (mdo_swap (i := i.p) (regs := R.l) (mem := M.l) hop)
      go_wp2_with fail
      refine (doSet R i.a _ _ base _ hDn.out.regs c8).mono ?_
      rintro e w1 ⟨rfl, ho, hc, _⟩
      have hD2 := Lib.hid (hDn.out.setR hne'.out hlt'.out.1 ho (mset_len _ _ _) hc)
      obtain ⟨c0, c1, c2, c3, c4, c5, c6, c7, c8⟩ := hD2.out.ci
      clear ho hc
      go_wp2_with fail
      rw [← Sl.wl_val (s := R) (l := mset R.l i.a (mget R.l i.b)) (mset_len _ _ _)] at c8
      refine (doSet _ i.b _ _ base _ hD2.out.regs c8).mono ?_
      rintro e w2 ⟨rfl, ho, hc, _⟩
      have hD3 := Lib.hid (hD2.out.setR hne'.out hlt'.out.1 (rl' := mset (mset R.l i.a (mget R.l i.b)) i.b (mget R.l i.a)) ho (by simp) hc)
      clear ho hc
      go_wp2_with fail
      go_ret2
      rw [em.out]
      exact ⟨rfl, hD3.out.regs, hD3.out.mem, hD3.out.chg⟩
    case inr.inr.inl =>
      rw [hop] at c0
      go_wp2_with fail
      go_meet
      exact ⟨_, _, _, _, rfl, rfl, rfl, hDn.out, Or.inl rfl, mdo_arm (i := i.p) (by show i.op ≠ 2 ∧ i.op ≠ 29 ∧ ¬ (i.op < 1 ∨ i.op = 28 ∨ 29 < i.op); omega) (by show mval i.op (mget R.l i.a) (mget R.l i.b) (mget R.l i.c) i.imm M.l = _; rw [hop]; simp [mval]) (by show (0 : Int) = if 5 ≤ i.op ∧ i.op ≤ 17 then -1 else 0; rw [if_neg (by omega)])⟩
    case inr.inr.inr.inl =>
      rw [hop] at c0
      go_wp2_with fail
      go_meet
      exact ⟨_, _, _, _, rfl, rfl, rfl, hDn.out, Or.inl rfl, mdo_arm (i := i.p) (by show i.op ≠ 2 ∧ i.op ≠ 29 ∧ ¬ (i.op < 1 ∨ i.op = 28 ∨ 29 < i.op); omega) (by show mval i.op (mget R.l i.a) (mget R.l i.b) (mget R.l i.c) i.imm M.l = _; rw [hop]; simp [mval]) (by show (0 : Int) = if 5 ≤ i.op ∧ i.op ≤ 17 then -1 else 0; rw [if_neg (by omega)])⟩
    case inr.inr.inr.inr.inl =>
      have d1 : (i.op == 1) = false := by simp; omega
      have d2 : (i.op == 2) = false := by simp; omega
      have d3 : (i.op == 3) = false := by simp; omega
      have d4 : (i.op == 4) = false := by simp; omega
      have d5 : decide (5 ≤ i.op) = true := by simpa using hop.1
      have d6 : decide (i.op ≤ 17) = true := by simpa using hop.2
      have h5 : 5 ≤ i.op := hop.1
      have h17 : i.op ≤ 17 := hop.2
      go_wp2_with fail
      refine (wordDo (i.op - 5 + 2) _ _ _).mono ?_
      rintro e w1 ⟨rfl, hb1⟩
      have hD2 := Lib.hid (hDn.out.go hb1)
      clear hb1
      go_wp2_with fail
      go_meet
      exact ⟨_, _, _, _, rfl, rfl, rfl, hD2.out, Or.inr rfl, mdo_arm (i := i.p) (by show i.op ≠ 2 ∧ i.op ≠ 29 ∧ ¬ (i.op < 1 ∨ i.op = 28 ∨ 29 < i.op); omega) (by show mval i.op (mget R.l i.a) (mget R.l i.b) (mget R.l i.c) i.imm M.l = _; rw [mval, if_neg (by omega), if_neg (by omega), if_pos (by omega)]) (by show (-1 : Int) = if 5 ≤ i.op ∧ i.op ≤ 17 then -1 else 0; rw [if_pos (by omega)])⟩
    case inr.inr.inr.inr.inr.inl =>
      rw [hop] at c0
      have hSn := Lib.hid (show ∀ W, Below W1.heap.size W1 W → W.cell? ⟨w.heap.size, 0, none⟩ = some (.int .i64 18) ∧ W.cell? ⟨w.heap.size, 6, none⟩ = some (.int .i32 i.imm) from fun W hW => ⟨by have h := (hDn.out.go hW).ci.1; rwa [hop] at h, (hDn.out.go hW).ci.2.2.2.2.2.2.1⟩)
      have hix := arrAt0
      go_wp2_with fail
      go_region_held3 (fun w' => w'.cell? ⟨w.heap.size, 0, none⟩ = some (.int .i64 18) ∧ w'.cell? ⟨w.heap.size, 6, none⟩ = some (.int .i32 i.imm)) (first | go_keep | exact ⟨by assumption, by assumption⟩) (first | (go_at_call 28; refine (wordDo 2 _ _ _).mono ?_; rintro e w1 ⟨rfl, hb1⟩; have hB := Lib.hid (show Below W1.heap.size W1 w1 from (show Below W1.heap.size W1 _ from by repeat (first | exact Below.refl _ _ | refine Below.drew ?_)).trans (hb1.mono (by simp))); obtain ⟨hS2, hS3⟩ := hSn.out w1 hB.out; clear hb1))
      go_wp2_with fail
      go_meet
      exact ⟨_, _, _, _, rfl, rfl, rfl, hDn.out.go hB.out, Or.inl rfl, mdo_arm (i := i.p) (by show i.op ≠ 2 ∧ i.op ≠ 29 ∧ ¬ (i.op < 1 ∨ i.op = 28 ∨ 29 < i.op); omega) (by show mval i.op (mget R.l i.a) (mget R.l i.b) (mget R.l i.c) i.imm M.l = _; rw [hop]; simp [mval, immOp]) (by show (0 : Int) = if 5 ≤ i.op ∧ i.op ≤ 17 then -1 else 0; rw [if_neg (by omega)])⟩
    case inr.inr.inr.inr.inr.inr.inl =>
      rw [hop] at c0
      have hSn := Lib.hid (show ∀ W, Below W1.heap.size W1 W → W.cell? ⟨w.heap.size, 0, none⟩ = some (.int .i64 19) ∧ W.cell? ⟨w.heap.size, 6, none⟩ = some (.int .i32 i.imm) from fun W hW => ⟨by have h := (hDn.out.go hW).ci.1; rwa [hop] at h, (hDn.out.go hW).ci.2.2.2.2.2.2.1⟩)
      have hix := arrAt1
      go_wp2_with fail
      go_region_held3 (fun w' => w'.cell? ⟨w.heap.size, 0, none⟩ = some (.int .i64 19) ∧ w'.cell? ⟨w.heap.size, 6, none⟩ = some (.int .i32 i.imm)) (first | go_keep | exact ⟨by assumption, by assumption⟩) (first | (go_at_call 28; refine (wordDo 5 _ _ _).mono ?_; rintro e w1 ⟨rfl, hb1⟩; have hB := Lib.hid (show Below W1.heap.size W1 w1 from (show Below W1.heap.size W1 _ from by repeat (first | exact Below.refl _ _ | refine Below.drew ?_)).trans (hb1.mono (by simp))); obtain ⟨hS2, hS3⟩ := hSn.out w1 hB.out; clear hb1))
      go_wp2_with fail
      go_meet
      exact ⟨_, _, _, _, rfl, rfl, rfl, hDn.out.go hB.out, Or.inl rfl, mdo_arm (i := i.p) (by show i.op ≠ 2 ∧ i.op ≠ 29 ∧ ¬ (i.op < 1 ∨ i.op = 28 ∨ 29 < i.op); omega) (by show mval i.op (mget R.l i.a) (mget R.l i.b) (mget R.l i.c) i.imm M.l = _; rw [hop]; simp [mval, immOp]) (by show (0 : Int) = if 5 ≤ i.op ∧ i.op ≤ 17 then -1 else 0; rw [if_neg (by omega)])⟩
    case inr.inr.inr.inr.inr.inr.inr.inl =>
      rw [hop] at c0
      have hSn := Lib.hid (show ∀ W, Below W1.heap.size W1 W → W.cell? ⟨w.heap.size, 0, none⟩ = some (.int .i64 20) ∧ W.cell? ⟨w.heap.size, 6, none⟩ = some (.int .i32 i.imm) from fun W hW => ⟨by have h := (hDn.out.go hW).ci.1; rwa [hop] at h, (hDn.out.go hW).ci.2.2.2.2.2.2.1⟩)
      have hix := arrAt2
      go_wp2_with fail
      go_region_held3 (fun w' => w'.cell? ⟨w.heap.size, 0, none⟩ = some (.int .i64 20) ∧ w'.cell? ⟨w.heap.size, 6, none⟩ = some (.int .i32 i.imm)) (first | go_keep | exact ⟨by assumption, by assumption⟩) (first | (go_at_call 28; refine (wordDo 8 _ _ _).mono ?_; rintro e w1 ⟨rfl, hb1⟩; have hB := Lib.hid (show Below W1.heap.size W1 w1 from (show Below W1.heap.size W1 _ from by repeat (first | exact Below.refl _ _ | refine Below.drew ?_)).trans (hb1.mono (by simp))); obtain ⟨hS2, hS3⟩ := hSn.out w1 hB.out; clear hb1))
      go_wp2_with fail
      go_meet
      exact ⟨_, _, _, _, rfl, rfl, rfl, hDn.out.go hB.out, Or.inl rfl, mdo_arm (i := i.p) (by show i.op ≠ 2 ∧ i.op ≠ 29 ∧ ¬ (i.op < 1 ∨ i.op = 28 ∨ 29 < i.op); omega) (by show mval i.op (mget R.l i.a) (mget R.l i.b) (mget R.l i.c) i.imm M.l = _; rw [hop]; simp [mval, immOp]) (by show (0 : Int) = if 5 ≤ i.op ∧ i.op ≤ 17 then -1 else 0; rw [if_neg (by omega)])⟩
    case inr.inr.inr.inr.inr.inr.inr.inr.inl =>
      rw [hop] at c0
      have hSn := Lib.hid (show ∀ W, Below W1.heap.size W1 W → W.cell? ⟨w.heap.size, 0, none⟩ = some (.int .i64 21) ∧ W.cell? ⟨w.heap.size, 6, none⟩ = some (.int .i32 i.imm) from fun W hW => ⟨by have h := (hDn.out.go hW).ci.1; rwa [hop] at h, (hDn.out.go hW).ci.2.2.2.2.2.2.1⟩)
      have hix := arrAt3
      go_wp2_with fail
      go_region_held3 (fun w' => w'.cell? ⟨w.heap.size, 0, none⟩ = some (.int .i64 21) ∧ w'.cell? ⟨w.heap.size, 6, none⟩ = some (.int .i32 i.imm)) (first | go_keep | exact ⟨by assumption, by assumption⟩) (first | (go_at_call 28; refine (wordDo 9 _ _ _).mono ?_; rintro e w1 ⟨rfl, hb1⟩; have hB := Lib.hid (show Below W1.heap.size W1 w1 from (show Below W1.heap.size W1 _ from by repeat (first | exact Below.refl _ _ | refine Below.drew ?_)).trans (hb1.mono (by simp))); obtain ⟨hS2, hS3⟩ := hSn.out w1 hB.out; clear hb1))
      go_wp2_with fail
      go_meet
      exact ⟨_, _, _, _, rfl, rfl, rfl, hDn.out.go hB.out, Or.inl rfl, mdo_arm (i := i.p) (by show i.op ≠ 2 ∧ i.op ≠ 29 ∧ ¬ (i.op < 1 ∨ i.op = 28 ∨ 29 < i.op); omega) (by show mval i.op (mget R.l i.a) (mget R.l i.b) (mget R.l i.c) i.imm M.l = _; rw [hop]; simp [mval, immOp]) (by show (0 : Int) = if 5 ≤ i.op ∧ i.op ≤ 17 then -1 else 0; rw [if_neg (by omega)])⟩
    case inr.inr.inr.inr.inr.inr.inr.inr.inr.inl =>
      rw [hop] at c0
      have hSn := Lib.hid (show ∀ W, Below W1.heap.size W1 W → W.cell? ⟨w.heap.size, 0, none⟩ = some (.int .i64 22) ∧ W.cell? ⟨w.heap.size, 6, none⟩ = some (.int .i32 i.imm) from fun W hW => ⟨by have h := (hDn.out.go hW).ci.1; rwa [hop] at h, (hDn.out.go hW).ci.2.2.2.2.2.2.1⟩)
      have hix := arrAt4
      go_wp2_with fail
      go_region_held3 (fun w' => w'.cell? ⟨w.heap.size, 0, none⟩ = some (.int .i64 22) ∧ w'.cell? ⟨w.heap.size, 6, none⟩ = some (.int .i32 i.imm)) (first | go_keep | exact ⟨by assumption, by assumption⟩) (first | (go_at_call 28; refine (wordDo 10 _ _ _).mono ?_; rintro e w1 ⟨rfl, hb1⟩; have hB := Lib.hid (show Below W1.heap.size W1 w1 from (show Below W1.heap.size W1 _ from by repeat (first | exact Below.refl _ _ | refine Below.drew ?_)).trans (hb1.mono (by simp))); obtain ⟨hS2, hS3⟩ := hSn.out w1 hB.out; clear hb1))
      go_wp2_with fail
      go_meet
      exact ⟨_, _, _, _, rfl, rfl, rfl, hDn.out.go hB.out, Or.inl rfl, mdo_arm (i := i.p) (by show i.op ≠ 2 ∧ i.op ≠ 29 ∧ ¬ (i.op < 1 ∨ i.op = 28 ∨ 29 < i.op); omega) (by show mval i.op (mget R.l i.a) (mget R.l i.b) (mget R.l i.c) i.imm M.l = _; rw [hop]; simp [mval, immOp]) (by show (0 : Int) = if 5 ≤ i.op ∧ i.op ≤ 17 then -1 else 0; rw [if_neg (by omega)])⟩
    case inr.inr.inr.inr.inr.inr.inr.inr.inr.inr.inl =>
      rw [hop] at c0
      go_wp2_with fail
      go_meet
      exact ⟨_, _, _, _, rfl, rfl, rfl, hDn.out, Or.inl rfl, mdo_arm (i := i.p) (by show i.op ≠ 2 ∧ i.op ≠ 29 ∧ ¬ (i.op < 1 ∨ i.op = 28 ∨ 29 < i.op); omega) (by show mval i.op (mget R.l i.a) (mget R.l i.b) (mget R.l i.c) i.imm M.l = _; rw [hop]; simp [mval]) (by show (0 : Int) = if 5 ≤ i.op ∧ i.op ≤ 17 then -1 else 0; rw [if_neg (by omega)])⟩
    case inr.inr.inr.inr.inr.inr.inr.inr.inr.inr.inr.inl =>
      rw [hop] at c0
      go_wp2_with fail
      refine (interpLoad M _ _ (hDn.out.mem).rd hw1).mono ?_
      rintro e w1 ⟨rfl, rfl⟩
      go_wp2_with fail
      go_meet
      exact ⟨_, _, _, _, rfl, rfl, rfl, hDn.out, Or.inl rfl, mdo_arm (i := i.p) (by show i.op ≠ 2 ∧ i.op ≠ 29 ∧ ¬ (i.op < 1 ∨ i.op = 28 ∨ 29 < i.op); omega) (by show mval i.op (mget R.l i.a) (mget R.l i.b) (mget R.l i.c) i.imm M.l = _; rw [hop]; simp [mval]) (by show (0 : Int) = if 5 ≤ i.op ∧ i.op ≤ 17 then -1 else 0; rw [if_neg (by omega)])⟩
    case inr.inr.inr.inr.inr.inr.inr.inr.inr.inr.inr.inr.inl =>
      rw [hop] at c0
      go_wp2_with fail
      refine (interpLoad M _ _ (hDn.out.mem).rd hw2).mono ?_
      rintro e w1 ⟨rfl, rfl⟩
      go_wp2_with fail
      go_meet
      exact ⟨_, _, _, _, rfl, rfl, rfl, hDn.out, Or.inl rfl, mdo_arm (i := i.p) (by show i.op ≠ 2 ∧ i.op ≠ 29 ∧ ¬ (i.op < 1 ∨ i.op = 28 ∨ 29 < i.op); omega) (by show mval i.op (mget R.l i.a) (mget R.l i.b) (mget R.l i.c) i.imm M.l = _; rw [hop]; simp [mval]) (by show (0 : Int) = if 5 ≤ i.op ∧ i.op ≤ 17 then -1 else 0; rw [if_neg (by omega)])⟩
    case inr.inr.inr.inr.inr.inr.inr.inr.inr.inr.inr.inr.inr.inl =>
      rw [hop] at c0
      go_wp2_with fail
      refine (interpStore M _ _ base _ hDn.out.mem hw1).mono ?_
      rintro e w1 ⟨rfl, ho, hc, _⟩
      have hD2 := Lib.hid (hDn.out.setM hne'.out hlt'.out.2 ho (mset_len _ _ _) hc)
      clear ho hc
      go_wp2_with fail
      go_meet
      exact ⟨_, _, _, _, rfl, rfl, rfl, hD2.out, Or.inl rfl, mdo_arm (i := i.p) (by show i.op ≠ 2 ∧ i.op ≠ 29 ∧ ¬ (i.op < 1 ∨ i.op = 28 ∨ 29 < i.op); omega) (by show mval i.op (mget R.l i.a) (mget R.l i.b) (mget R.l i.c) i.imm M.l = _; rw [hop]; simp [mval]) (by show (0 : Int) = if 5 ≤ i.op ∧ i.op ≤ 17 then -1 else 0; rw [if_neg (by omega)])⟩
    case inr.inr.inr.inr.inr.inr.inr.inr.inr.inr.inr.inr.inr.inr.inl =>
      rw [hop] at c0
      go_wp2_with fail
      refine (interpStore M _ _ base _ hDn.out.mem hw2).mono ?_
      rintro e w1 ⟨rfl, ho, hc, _⟩
      have hD2 := Lib.hid (hDn.out.setM hne'.out hlt'.out.2 ho (mset_len _ _ _) hc)
      clear ho hc
      go_wp2_with fail
      go_meet
      exact ⟨_, _, _, _, rfl, rfl, rfl, hD2.out, Or.inl rfl, mdo_arm (i := i.p) (by show i.op ≠ 2 ∧ i.op ≠ 29 ∧ ¬ (i.op < 1 ∨ i.op = 28 ∨ 29 < i.op); omega) (by show mval i.op (mget R.l i.a) (mget R.l i.b) (mget R.l i.c) i.imm M.l = _; rw [hop]; simp [mval]) (by show (0 : Int) = if 5 ≤ i.op ∧ i.op ≤ 17 then -1 else 0; rw [if_neg (by omega)])⟩
    case inr.inr.inr.inr.inr.inr.inr.inr.inr.inr.inr.inr.inr.inr.inr.inl =>
      rw [hop] at c0
      have em := Lib.hid (mdo_wide (i := i.p) (regs := R.l) (mem := M.l) hop)
      go_wp2_with fail
      refine (wordWide _ _ _).mono ?_
      rintro e w1 ⟨rfl, rfl⟩
      go_wp2_with fail
      refine (doSet R i.d _ _ base _ hDn.out.regs c8).mono ?_
      rintro e w1 ⟨rfl, ho, hc, _⟩
      have hD2 := Lib.hid (hDn.out.setR hne'.out hlt'.out.1 ho (mset_len _ _ _) hc)
      obtain ⟨c0, c1, c2, c3, c4, c5, c6, c7, c8⟩ := hD2.out.ci
      clear ho hc
      go_wp2_with fail
      rw [← Sl.wl_val (s := R) (l := mset R.l i.d (wlo (mget R.l i.a) (mget R.l i.b))) (mset_len _ _ _)] at c8
      refine (doSet _ i.e _ _ base _ hD2.out.regs c8).mono ?_
      rintro e w2 ⟨rfl, ho, hc, _⟩
      have hD3 := Lib.hid (hD2.out.setR hne'.out hlt'.out.1 (rl' := mset (mset R.l i.d (wlo (mget R.l i.a) (mget R.l i.b))) i.e (whi (mget R.l i.a) (mget R.l i.b))) ho (by simp) hc)
      clear ho hc
      go_wp2_with fail
      go_ret2
      rw [em.out]
      exact ⟨rfl, hD3.out.regs, hD3.out.mem, hD3.out.chg⟩
    case inr.inr.inr.inr.inr.inr.inr.inr.inr.inr.inr.inr.inr.inr.inr.inr =>
      have em := Lib.hid (mdo_none (i := i.p) (regs := R.l) (mem := M.l) hop)
      have d1 : (i.op == 1) = false := by simp; omega
      have d2 : (i.op == 2) = false := by simp; omega
      have d3 : (i.op == 3) = false := by simp; omega
      have d4 : (i.op == 4) = false := by simp; omega
      have d23 : (i.op == 23) = false := by simp; omega
      have d24 : (i.op == 24) = false := by simp; omega
      have d25 : (i.op == 25) = false := by simp; omega
      have d26 : (i.op == 26) = false := by simp; omega
      have d27 : (i.op == 27) = false := by simp; omega
      have d29 : (i.op == 29) = false := by simp; omega
      by_cases h1 : i.op < 1
      · have e5 : decide (5 ≤ i.op) = false := by simp; omega
        have e18 : decide (18 ≤ i.op) = false := by simp; omega
        go_wp2_with fail
        go_ret2
        rw [em.out]
        exact ⟨rfl, hDn.out.regs, hDn.out.mem, hDn.out.chg⟩
      · have e5 : decide (5 ≤ i.op) = true := by simp; omega
        have e17 : decide (i.op ≤ 17) = false := by simp; omega
        have e18 : decide (18 ≤ i.op) = true := by simp; omega
        have e22 : decide (i.op ≤ 22) = false := by simp; omega
        go_wp2_with fail
        go_ret2
        rw [em.out]
        exact ⟨rfl, hDn.out.regs, hDn.out.mem, hDn.out.chg⟩
  case rest =>
    obtain ⟨v, t, o, ml, rfl, rfl, rfl, hDi, ht, hmdo⟩ := hcut
    have hD4 := Lib.hid hDi
    have hmdo' := Lib.hid hmdo
    obtain ⟨c0, c1, c2, c3, c4, c5, c6, c7, c8⟩ := hDi.ci
    clear hDi hmdo hDn
    cases o with
    | false =>
      rcases ht with rfl | rfl
      · go_wp2_with fail
        go_ret2
        rw [hmdo'.out]
        exact ⟨rfl, hD4.out.regs, hD4.out.mem, hD4.out.chg⟩
      · go_wp2_with fail
        go_ret2
        rw [hmdo'.out]
        exact ⟨rfl, hD4.out.regs, hD4.out.mem, hD4.out.chg⟩
    | true =>
      clear ht
      go_wp2_with fail
      refine (machMakes i _).mono ?_
      rintro e w1 ⟨T, rfl, hTl, hTo, hb1⟩
      have hTb := hTo.short
      have hD5 := Lib.hid (hD4.out.go hb1)
      have hT := Lib.hid (hTo.lower (by have := hD4.out.chg.size; omega : w.heap.size ≤ _))
      have hTl' := Lib.hid hTl
      clear hb1 hTo hTl c0 c1 c2 c3 c4 c5 c6 c7 c8
      go_wp2_with fail
      go_loopg [189] (T.l.length) (fun g q wr => ∃ k : Nat, k ≤ T.l.length ∧ g = T.l.length - k ∧ q = .int .i64 k ∧ DI i R M base w wr (setAll R.l (T.l.take k) v) ml ∧ Own kI 3 w.heap.size wr T)
      case atStart => exact ⟨0, Nat.zero_le _, rfl, rfl, by simpa [setAll] using hD5.out, hT.out⟩
      case round =>
        obtain ⟨k, hk, hg, rfl, hDr, hTr⟩ := hrel
        have hDr' := Lib.hid hDr
        have hTr' := Lib.hid hTr
        have hg' := Lib.hid hg
        clear hDr hTr hg
        by_cases hlt : k < T.l.length
        · obtain ⟨b1, o1, hat, hb1, hc1⟩ := getI 38 3 Try.underlying38 (by kernel_rfl) hTr'.out.rd k hlt rfl
          have c8 := hDr'.out.ci.2.2.2.2.2.2.2.2
          go_wp2_with fail
          clear hat hc1
          rw [← Sl.wl_val (s := R) (l := setAll R.l (T.l.take k) v) (setAll_len _ _ _)] at c8
          refine (doSet _ T.l[k] _ _ base _ hDr'.out.regs c8).mono ?_
          rintro e w2 ⟨rfl, ho, hc, _⟩
          have hD6 := Lib.hid (hDr'.out.setR hne'.out hlt'.out.1 (rl' := setAll R.l (T.l.take (k + 1)) v) (by rw [setAll_at _ _ _ _ hlt]; exact ho) (by simp) hc)
          have hT6 := Lib.hid (hTr'.out.mv (w' := w2) fun q hq => by
            rcases hq with hq | ⟨x, _, hq⟩
            · refine hc.block q (hTr'.out.lt q (Or.inl hq)) fun e => ?_
              rw [Sl.wl_val (setAll_len _ _ _)] at e
              have h1 := hlt'.out.1 q e
              have h2 := hTr'.out.ge q hq
              omega
            · simp [kI, Kd.scalar] at hq)
          clear ho hc c8
          go_wp2_with fail
          go_roundg (T.l.length - (k + 1))
          case measure => have := hg'.out; omega
          case rel => exact ⟨k + 1, by omega, rfl, by go_num, hD6.out, hT6.out⟩
        · have hkl : k = T.l.length := by omega
          subst hkl
          go_wp2_with fail
          go_ret2
          rw [hmdo'.out]
          have hl := hDr'.out
          rw [List.take_length, hTl'.out] at hl
          exact ⟨rfl, hl.regs, hl.mem, hl.chg⟩
end Go.Proofs.Ytjlehpgfhlkjlaa
