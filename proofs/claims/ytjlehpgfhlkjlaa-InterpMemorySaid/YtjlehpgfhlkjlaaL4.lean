/-
  Package jacquardlaw04's own small functions: ret, one, shown.
-/
import Derived.Test.YtjlehpgfhlkjlaaIRun
import Derived.Test.YtjlehpgfhlkjlaaInt7
set_option linter.all false
namespace Jq
open Go Go.RowKit
/-- Operations whose instructions are walked. -/
def okOp (op : Int) : Bool := !(op == 17)
def opsOk (f : Func List) : Bool := f.blocks.all fun b => b.ins.all fun x => okOp x.op
/-- A right function that runs to an outcome. -/
structure RunsTo (F : Func List) (X : Input List) (o : Outcome List) : Prop where
  ex : ∃ fuel n, rightRows F (rowsOf F) fuel = true ∧ (runI F X n).map IS.out = some o
  small : smallF F = true
  ops : opsOk F = true
  steps : X.steps ≤ 1099511627776
/-- A row of one element, laid as a literal. -/
theorem lit_1 {α : Type} (d : Kd α) (W : World) (x : α) (e : Nat) (g : Nat) (hg : g = W.heap.size) (hx : d.rd W x) : d.sl.rd (W.alloc (.cells (d.cs x).toArray e)) ⟨some ⟨g, 0, none⟩, 1, [x]⟩ := by
  subst hg
  refine ⟨Nat.le_refl _, (by decide : (1 : Nat) ≤ 140737488355328), fun _ => ⟨W.heap.size, 0, rfl, by simp, fun k hk j hj => ?_⟩, fun y hy => ?_⟩
  · obtain rfl : k = 0 := by simpa using hk
    have h : (W.alloc (.cells (d.cs x).toArray e)).heap[W.heap.size]? = some (.cells (d.cs x).toArray e (0, 0)) := heap_alloc_new W _
    show (W.alloc (.cells (d.cs x).toArray e)).cell? ⟨W.heap.size, 0 + (0 * d.sz + j), none⟩ = (d.cs x)[j]?
    rw [Nat.zero_mul, Nat.zero_add, Nat.zero_add]
    simp only [World.cell?, h]
    simp
  · rw [List.mem_singleton.1 hy]
    exact d.below hx (bal (Below.refl _ _) _)
end Jq
namespace Go.Proofs.Ytjlehpgfhlkjlaa
open Go.RowKit Jq
set_option linter.unusedVariables false
theorem insC_of (x : Jq.Ins Sl) (h4 : x.args.l.length ≤ 4) (hok : okOp x.op = true) : InsC x := by
  intro kb mb B lim w s M C A s' h hB hx hs
  by_cases h1 : x.op = 1
  · have hs2 : insI x.p s = some (s.put x.dst x.imm) := by unfold insI; rw [if_pos (show x.p.op = 1 from h1)]; rfl
    rw [hs2] at hs
    injection hs with hs
    subst hs
    exact inInsC h hB x hx (by omega) h1
  · have h17 : x.op ≠ 17 := by
      unfold okOp at hok
      simpa using hok
    by_cases h18 : x.op = 18
    · exact inInsM h hB x hx (by omega) h18 s' hs
    by_cases h15 : x.op = 15
    · unfold insI at hs
      rw [if_neg (show ¬ x.p.op = 1 from h1), if_pos (show x.p.op = 15 from h15)] at hs
      split at hs
      · exact absurd hs (by simp)
      · rename_i a ha
        by_cases hk : ldOk s.mem (wrap32 (a + x.imm)) = true
        · rw [if_pos (show ldOk s.mem (wrap32 (a + x.p.imm)) = true from hk)] at hs
          injection hs with hs
          subst hs
          exact inInsL h hB x hx (by omega) h15 a ha hk
        · rw [if_neg (show ¬ ldOk s.mem (wrap32 (a + x.p.imm)) = true from hk)] at hs
          injection hs with hs
          subst hs
          exact inInsLx h hB x hx (by omega) h15 a ha (by simpa using hk)
    by_cases h16 : x.op = 16
    · unfold insI at hs
      rw [if_neg (show ¬ x.p.op = 1 from h1), if_neg (show ¬ x.p.op = 15 from h15), if_pos (show x.p.op = 16 from h16)] at hs
      split at hs
      · rename_i a b ha hb
        by_cases hk : ldOk s.mem (wrap32 (a + x.imm)) = true
        · rw [if_pos (show ldOk s.mem (wrap32 (a + x.p.imm)) = true from hk)] at hs
          injection hs with hs
          subst hs
          exact inInsS h hB x hx (by omega) h16 a ha b hb hk
        · rw [if_neg (show ¬ ldOk s.mem (wrap32 (a + x.p.imm)) = true from hk)] at hs
          injection hs with hs
          subst hs
          exact inInsSx h hB x hx (by omega) h16 a ha b hb (by simpa using hk)
      · exact absurd hs (by simp)
    exact inInsD h hB x hx (by omega) h1 h15 h16 h17 h18 s' hs
/-- 'interp.Run', of a function whose run is known. -/
theorem inRunL (f : Jq.Func Sl) (x : Jq.Input Sl) (F : Jq.Func List) (X : Jq.Input List) (o : Jq.Outcome List) (w : World) (hfp : f.p = F) (hxp : x.p = X) (hf : kFunc.rd w f) (hx : kInput.rd w x) (h : RunsTo F X o) :
    Calls Try.prog 37 #[.agg #[.int .i64 f.params, f.blocks.val], .agg #[x.args.val, x.mem.val, x.answers.val, .int .i64 x.steps]] w (OutRes w o) := by
  subst hfp
  subst hxp
  obtain ⟨fuel, n, hr, hno⟩ := h.ex
  obtain ⟨sF, hn, ho⟩ := Option.map_eq_some_iff.1 hno
  subst ho
  refine inRun f x fuel n sF w hf hx hr h.small (fun b hb i hi => ?_) h.steps hn
  have h1 := List.all_eq_true.1 h.small b.p (List.mem_map_of_mem hb)
  rw [Bool.and_eq_true] at h1
  have h2 := List.all_eq_true.1 h1.2 i.p (List.mem_map_of_mem hi)
  have h3 := List.all_eq_true.1 (List.all_eq_true.1 h.ops b.p (List.mem_map_of_mem hb)) i.p (List.mem_map_of_mem hi)
  refine insC_of i ?_ h3
  have := of_decide_eq_true h2
  simpa [Ins.p] using this
set_option maxHeartbeats 1000000 in
/-- 'jacquardlaw04.ret'. -/
theorem l4ret (v : Int) (w : World) : Calls Try.prog 39 #[.int .i64 v] w fun e w' => ∃ t : Jq.Term Sl, e = .returned (.agg #[.int .i64 t.kind, t.args.val, t.to.val, .int .i32 t.imm]) ∧ t.p = ⟨4, [v], [], 0⟩ ∧ kTerm.rd w' t ∧ Below w.heap.size w w' := by
  go_enter Try.func39, Try.ntmps39
  go_wp2_with fail
  refine bodyPost_ret (v := .agg #[.int .i64 4, .slice (some ⟨w.heap.size + 1, 0, none⟩) 1 1, .slice none 0 0, .int .i32 0]) (by simp [results, Try.results39, go_sem]) rfl ?_
  exact ⟨⟨4, ⟨some ⟨w.heap.size + 1, 0, none⟩, 1, [v]⟩, nilSl, 0⟩, rfl, rfl, ⟨lit_1 kI _ v _ _ (by simp) trivial, Kd.nil_rd _ _⟩, bal (bal (Below.refl _ _) _) _⟩
/-- A function of one block, in memory. -/
def OneF (p : Int) (l : Sl (Jq.Ins Sl)) (t : Jq.Term Sl) (w : World) (e : Ending) (w' : World) : Prop :=
  ∃ f : Jq.Func Sl, e = .returned (.agg #[.int .i64 f.params, f.blocks.val]) ∧ f.p = ⟨p, [⟨[], l.l.map Ins.p, t.p⟩]⟩ ∧ kFunc.rd w' f ∧ Below w.heap.size w w'
set_option maxHeartbeats 1000000 in
/-- 'jacquardlaw04.one'. -/
theorem l4one (p : Int) (l : Sl (Jq.Ins Sl)) (t : Jq.Term Sl) (w : World) (hl : kIns.sl.rd w l) (ht : kTerm.rd w t) : Calls Try.prog 38 #[.int .i64 p, l.val, .agg #[.int .i64 t.kind, t.args.val, t.to.val, .int .i32 t.imm]] w (OneF p l t w) := by
  have hl' := Lib.hid hl
  have ht' := Lib.hid ht
  clear hl ht
  go_enter Try.func38, Try.ntmps38
  go_wp2_with fail
  refine bodyPost_ret (v := .agg #[.int .i64 p, .slice (some ⟨w.heap.size + 1 + 1, 0, none⟩) 1 1]) (by simp [results, Try.results38, go_sem]) rfl ?_
  have hB : Below w.heap.size w ((w.alloc (.cells #[.int .i64 t.kind, t.args.val, t.to.val, .int .i32 t.imm] 81)).alloc (.cells #[.int .i64 p, .slice (some ⟨w.heap.size + 1 + 1, 0, none⟩) 1 1] 75)) := bal (bal (Below.refl _ _) _) _
  exact ⟨⟨p, ⟨some ⟨w.heap.size + 1 + 1, 0, none⟩, 1, [⟨nilSl, l, t⟩]⟩⟩, rfl, rfl, lit_1 kBlock _ ⟨nilSl, l, t⟩ _ _ (by simp) ⟨Kd.nil_rd _ _, kIns.sl.below hl'.out hB, kTerm.below ht'.out hB⟩, bal hB _⟩
/-- What the document's examples run. -/
def Fdiv : Jq.Func List := ⟨2, [⟨[], [⟨14, 2, 0, [0, 1], 0⟩], ⟨4, [2], [], 0⟩⟩]⟩
theorem keptOf_nil (n : Int) : keptOf n [] = [] := keptOf_sorted n [] (by simp) (by simp)
theorem rows_div : rowsOf Fdiv = [[]] := by simp [rowsOf, Fdiv, keptOf_nil]
theorem right_div : rightRows Fdiv [[]] 4 = true := by decide
theorem run_div1 : RunsTo Fdiv ⟨[7, 2], [], [], 5⟩ ⟨1, 3, [], [], 2⟩ := by
  refine ⟨⟨4, 1, by rw [rows_div]; exact right_div, by kernel_rfl⟩, by decide, by decide, by decide⟩
theorem run_div2 : RunsTo Fdiv ⟨[7], [], [], 5⟩ ⟨2, -1, [], [], 1⟩ := by
  refine ⟨⟨4, 1, by rw [rows_div]; exact right_div, by kernel_rfl⟩, by decide, by decide, by decide⟩
set_option maxRecDepth 100000 in
set_option maxHeartbeats 2000000 in
/-- 'jacquardlaw04.shown'. -/
theorem l4shown (w : World) : Calls Try.prog 30 #[] w fun e w' => e = .returned (.bool true) ∧ Below w.heap.size w w' := by
  go_enter Try.func30, Try.ntmps30
  go_wp2_with fail
  have hB1 : Below w.heap.size w (w.alloc (.cells #[.int .i64 0, .int .i64 1] 3)) := bal (Below.refl _ _) _
  have hA : kI.sl.rd (w.alloc (.cells #[.int .i64 0, .int .i64 1] 3)) ⟨some ⟨w.heap.size, 0, none⟩, 2, [0, 1]⟩ := (own_lit (.int .i64) 3 0 w [0, 1] (by simp) (by simp)).rd
  have hI := lit_1 kIns (w.alloc (.cells #[.int .i64 0, .int .i64 1] 3)) ⟨14, 2, 0, ⟨some ⟨w.heap.size, 0, none⟩, 2, [0, 1]⟩, 0⟩ 78 (w.heap.size + 1) (by simp) hA
  obtain ⟨w0, hw0⟩ : ∃ w0, w0 = (w.alloc (.cells #[.int .i64 0, .int .i64 1] 3)).alloc (.cells (kIns.cs ⟨14, 2, 0, ⟨some ⟨w.heap.size, 0, none⟩, 2, [0, 1]⟩, 0⟩).toArray 78) := ⟨_, rfl⟩
  have hB0 := Lib.hid (show Below w.heap.size w w0 by rw [hw0]; exact bal hB1 _)
  rw [← hw0] at hI
  have hI' := Lib.hid hI
  show Calls _ _ _ ((w.alloc (.cells #[.int .i64 0, .int .i64 1] 3)).alloc (.cells (kIns.cs ⟨14, 2, 0, ⟨some ⟨w.heap.size, 0, none⟩, 2, [0, 1]⟩, 0⟩).toArray 78)) _
  rw [← hw0]
  clear hw0 hB1 hA hI
  refine (l4ret 2 w0).mono ?_
  rintro e w1 ⟨t, rfl, htp, htr, hb1⟩
  have htp' := Lib.hid htp
  have htr' := Lib.hid htr
  have hb1' := Lib.hid hb1
  clear htp htr hb1
  go_wp2_with fail
  refine (l4one 2 ⟨some ⟨w.heap.size + 1, 0, none⟩, 1, [⟨14, 2, 0, ⟨some ⟨w.heap.size, 0, none⟩, 2, [0, 1]⟩, 0⟩]⟩ t w1 (kIns.sl.below hI'.out hb1'.out) htr'.out).mono ?_
  rintro e w2 ⟨f, rfl, hfp, hfr, hb2⟩
  have hfp' := Lib.hid (show f.p = Fdiv by rw [hfp, htp'.out]; rfl)
  have hfr' := Lib.hid hfr
  have hb2' := Lib.hid (bthen (bthen hB0.out hb1'.out) hb2)
  clear hfp hfr hb2
  go_wp2_with fail
  have hX1 : Below w2.heap.size w2 ((w2.alloc (.cells #[.int .i64 f.params, .slice f.blocks.A f.blocks.l.length f.blocks.cap] 75)).alloc (.cells #[.int .i32 7, .int .i32 2] 21)) := bal (bal (Below.refl _ _) _) _
  have hx1 : kW.sl.rd ((w2.alloc (.cells #[.int .i64 f.params, .slice f.blocks.A f.blocks.l.length f.blocks.cap] 75)).alloc (.cells #[.int .i32 7, .int .i32 2] 21)) ⟨some ⟨w2.heap.size + 1, 0, none⟩, 2, [7, 2]⟩ := by
    have h := (own_lit (.int .i32) 21 0 (w2.alloc (.cells #[.int .i64 f.params, .slice f.blocks.A f.blocks.l.length f.blocks.cap] 75)) [7, 2] (by simp) (by simp)).rd
    simpa [kW] using h
  have hbx : ((w2.alloc (.cells #[.int .i64 f.params, .slice f.blocks.A f.blocks.l.length f.blocks.cap] 75)).alloc (.cells #[.int .i32 7, .int .i32 2] 21)).heap[w2.heap.size]? = some (.cells [.int .i64 f.params, f.blocks.val].toArray 75 (0, 0)) := by
    rw [Below.heap_alloc _ _ _ (by simp)]
    exact heap_alloc_new _ _
  refine (inRunL f ⟨⟨some ⟨w2.heap.size + 1, 0, none⟩, 2, [7, 2]⟩, nilSl, nilSl, 5⟩ Fdiv ⟨[7, 2], [], [], 5⟩ ⟨1, 3, [], [], 2⟩ _ hfp'.out rfl (kFunc.below hfr'.out hX1) ⟨hx1, Kd.nil_rd _ _, Kd.nil_rd _ _⟩ run_div1).mono ?_
  rintro e w3 ⟨⟨of, ov, om, oc, os⟩, rfl, hop, -, -, -, hb3⟩
  injection hop with e1 e2 e3 e4 e5
  clear e3 e4
  have e1 : of = 1 := e1
  have e2 : ov = 3 := e2
  have e5 : os = 2 := e5
  subst e1 e2 e5
  have hb3' := Lib.hid (bthen hb2'.out (bthen hX1 hb3))
  have hfr3 := Lib.hid (kFunc.below hfr'.out (bthen hX1 hb3))
  have hbx3 := bx_go hbx hb3
  have c0 : w3.cell? ⟨w2.heap.size, 0, none⟩ = some (.int .i64 f.params) := bx_cell hbx3 rfl
  have c1 : w3.cell? ⟨w2.heap.size, 1, none⟩ = some f.blocks.val := bx_cell hbx3 rfl
  have hl2 : w2.heap.size < w3.heap.size := lt_of_block hbx3
  clear hX1 hx1 hbx hb3 hbx3
  go_wp2_with fail
  clear c0 c1
  have hX2 : Below w3.heap.size w3 ((w3.alloc (.cells #[.int .i64 1, .int .i32 3, om.val, oc.val, .int .i64 2] 33)).alloc (.cells #[.int .i32 7] 21)) := bal (bal (Below.refl _ _) _) _
  have hx2 := lit_1 kW (w3.alloc (.cells #[.int .i64 1, .int .i32 3, om.val, oc.val, .int .i64 2] 33)) 7 21 (w3.heap.size + 1) (by simp) trivial
  have hbo : ((w3.alloc (.cells #[.int .i64 1, .int .i32 3, om.val, oc.val, .int .i64 2] 33)).alloc (.cells #[.int .i32 7] 21)).heap[w3.heap.size]? = some (.cells [.int .i64 1, .int .i32 3, om.val, oc.val, .int .i64 2].toArray 33 (0, 0)) := by
    rw [Below.heap_alloc _ _ _ (by simp)]
    exact heap_alloc_new _ _
  refine (inRunL f ⟨⟨some ⟨w3.heap.size + 1, 0, none⟩, 1, [7]⟩, nilSl, nilSl, 5⟩ Fdiv ⟨[7], [], [], 5⟩ ⟨2, -1, [], [], 1⟩ _ hfp'.out rfl (kFunc.below hfr3.out hX2) ⟨hx2, Kd.nil_rd _ _, Kd.nil_rd _ _⟩ run_div2).mono ?_
  rintro e w4 ⟨⟨of2, ov2, om2, oc2, os2⟩, rfl, hop, -, -, -, hb4⟩
  injection hop with e1 e2 e3 e4 e5
  clear e3 e4
  have e1 : of2 = 2 := e1
  have e2 : ov2 = -1 := e2
  have e5 : os2 = 1 := e5
  subst e1 e2 e5
  have hb4' := Lib.hid (bthen hb3'.out (bthen hX2 hb4))
  have hbo4 := bx_go hbo hb4
  have c0 : w4.cell? ⟨w3.heap.size, 0, none⟩ = some (.int .i64 1) := bx_cell hbo4 rfl
  have c1 : w4.cell? ⟨w3.heap.size, 1, none⟩ = some (.int .i32 3) := bx_cell hbo4 rfl
  have c4 : w4.cell? ⟨w3.heap.size, 4, none⟩ = some (.int .i64 2) := bx_cell hbo4 rfl
  have hl3 : w3.heap.size < w4.heap.size := lt_of_block hbo4
  clear hX2 hx2 hbo hb4 hbo4
  go_wp2_with fail
  go_ret
  exact ⟨rfl, bal hb4'.out _⟩
end Go.Proofs.Ytjlehpgfhlkjlaa
