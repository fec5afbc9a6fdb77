/-
  Package jacquardlaw07's own small functions: one, shown, goes, some, few; jacquardref04.Words.
-/
import Derived.Test.YtjlehpgfhlkjlaaRun
import Derived.Test.YtjlehpgfhlkjlaaSl2
import Derived.Test.YtjlehpgfhlkjlaaPL7
set_option linter.all false
namespace Jq
open Go Go.RowKit
/-- A row of one element, laid as a literal. -/
theorem lit_one {α : Type} (d : Kd α) (W : World) (x : α) (e : Nat) (hx : d.rd W x) : d.sl.rd (W.alloc (.cells (d.cs x).toArray e)) ⟨some ⟨W.heap.size, 0, none⟩, 1, [x]⟩ := by
  refine ⟨Nat.le_refl _, (by decide : (1 : Nat) ≤ 140737488355328), fun _ => ⟨W.heap.size, 0, rfl, by simp, fun k hk j hj => ?_⟩, fun y hy => ?_⟩
  · obtain rfl : k = 0 := by simpa using hk
    have h : (W.alloc (.cells (d.cs x).toArray e)).heap[W.heap.size]? = some (.cells (d.cs x).toArray e (0, 0)) := heap_alloc_new W _
    show (W.alloc (.cells (d.cs x).toArray e)).cell? ⟨W.heap.size, 0 + (0 * d.sz + j), none⟩ = (d.cs x)[j]?
    rw [Nat.zero_mul, Nat.zero_add, Nat.zero_add]
    simp only [World.cell?, h]
    simp
  · rw [List.mem_singleton.1 hy]
    exact d.below hx (bal (Below.refl _ _) _)
theorem lit_one_at {α : Type} (d : Kd α) (W : World) (x : α) (e : Nat) (g : Nat) (hg : g = W.heap.size) (hx : d.rd W x) : d.sl.rd (W.alloc (.cells (d.cs x).toArray e)) ⟨some ⟨g, 0, none⟩, 1, [x]⟩ := by
  subst hg
  exact lit_one d W x e hx
theorem own_cell {T : TypeId} {B g cap : Nat} {W : World} {l : List Int} (h : Own kW T B W ⟨some ⟨g, 0, none⟩, cap, l⟩) (k : Nat) (hk : k < l.length) : W.cell? ⟨g, k, none⟩ = some (.int .i32 l[k]) := by
  obtain ⟨b, o, hA, _, hc⟩ := h.rd.2.2.1 (by show 0 < l.length; omega)
  simp only [Option.some.injEq, Addr.mk.injEq] at hA
  obtain ⟨rfl, rfl, _⟩ := hA
  have := hc k hk 0 (by decide)
  simpa [kW, Kd.scalar] using this
theorem below_chg {F : Nat → Prop} {B : Nat} {w W W' : World} (h : Below B w W) (hc : Chg F W W') (hF : ∀ k, F k → B ≤ k) (hB : B ≤ W.heap.size) : Below B w W' :=
  ⟨hc.os.trans h.os, hc.tape.trans h.tape, hc.output.trans h.output, Nat.le_trans h.size hc.size, fun k hk => (hc.block k (by omega) fun f => by have := hF k f; omega).trans (h.block k hk)⟩
end Jq
namespace Go.Proofs.Ytjlehpgfhlkjlaa
open Go.RowKit Jq Go.Deep
set_option linter.unusedVariables false
/-- Code of one block, in memory. -/
def OneRes (p : Int) (e : Jq.End Sl) (l : Sl (Mach Sl)) (w : World) (en : Ending) (w' : World) : Prop :=
  ∃ m : MFunc Sl, en = .returned m.v ∧ m.p = ⟨p, [⟨[], l.l.map Mach.p, e.p⟩]⟩ ∧ kMFunc.rd w' m ∧ (∀ b, b ∈ m.blocks.l → ∀ y, y ∈ b.ins.l → y ∈ l.l) ∧ Below w.heap.size w w'
theorem one_res (p : Int) (e : Jq.End Sl) (l : Sl (Mach Sl)) (w W : World) (he : kEnd.rd w e) (hl : kMach.sl.rd w l) (hB : Below w.heap.size w W) (T : Nat) (g : Nat) (hg : g = W.heap.size) :
    OneRes p e l w (.returned (.agg #[.int .i64 p, .slice (some ⟨g, 0, none⟩) 1 1])) (W.alloc (.cells (kMBlock.cs ⟨nilSl, l, e⟩).toArray T)) := by
  subst hg
  have hr : kMBlock.rd W ⟨nilSl, l, e⟩ := ⟨Kd.nil_rd _ _, kMach.sl.below hl hB, kEnd.below he hB⟩
  refine ⟨⟨p, ⟨some ⟨W.heap.size, 0, none⟩, 1, [⟨nilSl, l, e⟩]⟩⟩, rfl, rfl, lit_one kMBlock W _ T hr, fun b hb y hy => ?_, bal hB _⟩
  rw [List.mem_singleton.1 hb] at hy
  exact hy
set_option maxRecDepth 1000000 in
set_option maxHeartbeats 800000 in
/-- 'jacquardlaw07.one'. -/
theorem l7one (p : Int) (e : Jq.End Sl) (l : Sl (Mach Sl)) (w : World) (he : kEnd.rd w e) (hl : kMach.sl.rd w l) :
    Calls Try.prog 34 #[.int .i64 p, e.v, l.val] w (OneRes p e l w) := by
  have he' := Lib.hid he
  have hl' := Lib.hid hl
  clear he hl
  go_enter Try.func34, Try.ntmps34
  go_wp2_with fail
  refine bodyPost_ret (v := .agg #[.int .i64 p, .slice (some ⟨w.heap.size + 1 + 1, 0, none⟩) 1 1]) (by simp [results, Try.results34, go_sem]) rfl ?_
  exact one_res p e l w _ he'.out hl'.out (bal (bal (Below.refl _ _) _) _) _ _ (by simp)
set_option maxRecDepth 1000000 in
set_option maxHeartbeats 800000 in
/-- 'jacquardlaw07.shown'. -/
theorem l7shown (w : World) : Calls Try.prog 15 #[] w fun e w' => e = .returned (.bool true) ∧ Below w.heap.size w w' := by
  go_enter Try.func15, Try.ntmps15
  go_wp2_with fail
  refine (l7one 1 ⟨7, 1, 0, nilSl, 0⟩ ⟨some ⟨w.heap.size, 0, none⟩, 1, [⟨18, 1, 0, 0, 0, 0, -3, nilSl⟩]⟩ _ (Kd.nil_rd _ _) (lit_one kMach w ⟨18, 1, 0, 0, 0, 0, -3, nilSl⟩ 40 (Kd.nil_rd _ _))).mono ?_
  rintro e w1 ⟨m, rfl, hmp, hmr, hmem, hb1⟩
  have hmp' := Lib.hid hmp
  have hmr' := Lib.hid hmr
  have hmem' := Lib.hid hmem
  have hb1' := Lib.hid (bthen (bal (Below.refl _ _) _) hb1)
  clear hmp hmr hmem hb1
  go_wp2_with fail
  refine (machRun m ⟨⟨some ⟨w1.heap.size, 0, none⟩, 1, [5]⟩, nilSl, nilSl, 9⟩ _ (kMFunc.below hmr'.out (bal (Below.refl _ _) _)) ⟨(own_lit (.int .i32) 21 0 w1 [5] (by simp) (by simp)).rd, Kd.nil_rd _ _, Kd.nil_rd _ _⟩ (fun b hb y hy => by rw [List.mem_singleton.1 (hmem'.out b hb y hy)]; exact Nat.zero_le _) (show (9 : Int) ≤ 1099511627776 by decide)).mono ?_
  rintro e w2 ⟨⟨of, ov, om, oc, os⟩, rfl, hop, -, -, -, hb2⟩
  rw [hmp'.out] at hop
  have hop2 : Outcome.p ⟨of, ov, om, oc, os⟩ = ⟨1, 2, [], [], 2⟩ := hop.trans shown_run
  injection hop2 with e1 e2 e3 e4 e5
  clear e3 e4
  have e1 : of = 1 := e1
  have e2 : ov = 2 := e2
  have e5 : os = 2 := e5
  subst e1 e2 e5
  have hb2' := Lib.hid (bthen (bal hb1'.out _) hb2)
  clear hop hb2 hmp' hmr' hmem' hb1'
  go_wp2_with fail
  refine (l7one 1 ⟨7, 1, 0, nilSl, 0⟩ ⟨some ⟨w2.heap.size + 1, 0, none⟩, 1, [⟨18, 1, 0, 0, 0, 0, 128, nilSl⟩]⟩ _ (Kd.nil_rd _ _) (lit_one_at kMach _ ⟨18, 1, 0, 0, 0, 0, 128, nilSl⟩ 40 _ (by simp) (Kd.nil_rd _ _))).mono ?_
  rintro e w3 ⟨m2, rfl, hmp, hmr, hmem, hb3⟩
  have hmp' := Lib.hid hmp
  have hmr' := Lib.hid hmr
  have hmem' := Lib.hid hmem
  have hbb := Lib.hid (show Below w2.heap.size w2 w3 from bthen (bal (bal (Below.refl _ _) _) _) hb3)
  have hb3' := Lib.hid (bthen hb2'.out hbb.out)
  have hsz : w2.heap.size + 1 < w3.heap.size := by have := hb3.size; simp at this; omega
  have hob : w3.heap[w2.heap.size]? = some (.cells [.int .i64 1, .int .i32 2, om.val, oc.val, .int .i64 2].toArray 33 (0, 0)) := (hb3.block _ (by simp; omega)).trans ((Below.heap_alloc _ _ _ (by simp)).trans (heap_alloc_new w2 _))
  clear hmp hmr hmem hb3
  go_wp2_with fail
  refine (machFunc m2 _ hmr'.out (fun b hb y hy => by rw [List.mem_singleton.1 (hmem'.out b hb y hy)]; exact Nat.zero_le _)).mono ?_
  rintro e w4 ⟨rfl, hb4⟩
  have hE : (funcErr m2.p).1 = 32 := by rw [hmp'.out]; exact shown_err
  rw [hE]
  obtain ⟨x1, hx1⟩ : ∃ x1, (funcErr m2.p).2.1 = x1 := ⟨_, rfl⟩
  obtain ⟨x2, hx2⟩ : ∃ x2, (funcErr m2.p).2.2 = x2 := ⟨_, rfl⟩
  rw [hx1, hx2]
  have hob4 := (hb4.block _ (by omega)).trans hob
  have c0 : w4.cell? ⟨w2.heap.size, 0, none⟩ = some (.int .i64 1) := by simp [World.cell?, hob4]
  have c1 : w4.cell? ⟨w2.heap.size, 1, none⟩ = some (.int .i32 2) := by simp [World.cell?, hob4]
  have c4 : w4.cell? ⟨w2.heap.size, 4, none⟩ = some (.int .i64 2) := by simp [World.cell?, hob4]
  have hb5 := Lib.hid (bthen hb3'.out hb4)
  clear hx1 hx2 hE hob hob4 hb4
  go_wp2_with fail
  go_ret
  exact ⟨rfl, hb5.out⟩
theorem goes_call (op : Int) (k : Nat) (R Z : Sl Int) (w : World) (hk : k ≤ 64) (hR : kW.sl.rd w R) (hZ : Z = ⟨some ⟨w.heap.size, 0, none⟩, k + 1, List.replicate (k + 1) 0⟩) :
    Calls Try.prog 46 #[.agg #[.int .i64 op, .int .i64 0, .int .i64 1, Z.val, .int .i32 0], R.val] (w.alloc (.cells (madeCells #[.int .i64 0] (k + 1)) 3)) fun e w' => e = .returned (.int .i64 (goesOf ⟨op, 0, 1, Z.l, 0⟩ R.l)) ∧ Below w.heap.size w w' := by
  have hO : kI.sl.rd (w.alloc (.cells (madeCells #[.int .i64 0] (k + 1)) 3)) Z := by
    rw [hZ]
    exact (own_made (d := kI) (fun x => .int .i64 x) rfl (fun _ => rfl) 0 (fun _ => trivial) rfl 3 0 w (k + 1) (Nat.zero_le _) (by omega)).rd
  exact (machGoes ⟨op, 0, 1, Z, 0⟩ R _ hO (kW.sl.below hR (bal (Below.refl _ _) _))).mono fun e w' h => ⟨h.1, bthen (bal (Below.refl _ _) _) h.2⟩
set_option maxRecDepth 1000000 in
set_option maxHeartbeats 800000 in
/-- 'jacquardlaw07.goes'. -/
theorem l7goes (op : Int) (k : Nat) (R : Sl Int) (w : World) (hk : k ≤ 64) (hR : kW.sl.rd w R) :
    Calls Try.prog 36 #[.int .i64 op, .int .i64 k, R.val] w fun e w' => e = .returned (.int .i64 (goesOf ⟨op, 0, 1, List.replicate (k + 1) 0, 0⟩ R.l)) ∧ Below w.heap.size w w' := by
  have hmk : ∀ W : World, (Instr.makeSlice 38 (.int .i64 (k + 1)) (.int .i64 (k + 1))).run Try.prog W = .ok (.slice (some ⟨W.heap.size, 0, none⟩) (k + 1) (k + 1)) (W.alloc (.cells (madeCells #[.int .i64 0] (k + 1)) 3)) := by
    intro W
    have h := run_make_row' 38 3 (.int .i64 0) 8 Try.underlying38 infoI rfl .i64 .i64 (k + 1) (by omega) (by omega) W
    simpa using h
  obtain ⟨Z, hZ⟩ : ∃ Z : Sl Int, Z = ⟨some ⟨w.heap.size, 0, none⟩, k + 1, List.replicate (k + 1) 0⟩ := ⟨_, rfl⟩
  have hg := goes_call op k R Z w hk hR hZ
  have hZv : Z.val = .slice (some ⟨w.heap.size, 0, none⟩) (k + 1) (k + 1) := by rw [hZ]; simp only [Sl.val, List.length_replicate]
  have hZl : Z.l = List.replicate (k + 1) 0 := by rw [hZ]
  rw [hZv, hZl] at hg
  have hg' := Lib.hid hg
  clear hg hZv hZl hZ hR Z
  go_enter Try.func36, Try.ntmps36
  go_wp2_with fail
  refine hg'.out.mono ?_
  rintro e w1 ⟨rfl, hb⟩
  have hb' := Lib.hid hb
  clear hb hg'
  go_wp2_with fail
  go_ret
  exact ⟨rfl, hb'.out⟩
end Go.Proofs.Ytjlehpgfhlkjlaa
