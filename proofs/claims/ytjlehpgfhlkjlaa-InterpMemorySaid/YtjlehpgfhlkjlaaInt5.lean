/-
  interp.run.ins: constants, and the words' operations.
-/
import Derived.Test.YtjlehpgfhlkjlaaInt4
import Derived.Test.YtjlehpgfhlkjlaaWord
import Derived.Lib.QuietBelow
set_option linter.all false
namespace Go.Proofs.Ytjlehpgfhlkjlaa
open Go.RowKit Jq Go.Sort
set_option linter.unusedVariables false
/-- What stands behind the operands' words. -/
structure IW (kb mb B : Nat) (lim : Int) (w : World) (s : IS) (M : Sl Int) (C : Sl (Jq.Event Sl)) (A : Sl Int) (x : Jq.Ins Sl) (o : Sl Int) (w1 : World) : Prop where
  rk : RK kb mb B lim w1 s M C A
  own : Jq.Own kW 21 (w.heap.size + 2) w1 o
  ol : o.l = s.words x.args.l
  b2 : w1.heap[w.heap.size]? = some (.cells [.pointer (some ⟨kb, 0, none⟩)].toArray 119 (0, 0))
  b3 : w1.heap[w.heap.size + 1]? = some (.cells [.int .i64 x.op, .int .i64 x.dst, .int .i64 x.two, x.args.val, .int .i32 x.imm].toArray 78 (0, 0))
  below : Below w.heap.size w w1
section
variable {kb mb B : Nat} {lim : Int} {w w1 w2 : World} {s : IS} {M : Sl Int} {C : Sl (Jq.Event Sl)} {A : Sl Int} {x : Jq.Ins Sl} {o : Sl Int}
theorem IW.go (h : IW kb mb B lim w s M C A x o w1) (hb : Below w1.heap.size w1 w2) : IW kb mb B lim w s M C A x o w2 :=
  ⟨h.rk.go hb, h.own.below hb, h.ol, bx_go h.b2 hb, bx_go h.b3 hb, bthen h.below hb⟩
theorem IW.el (h : IW kb mb B lim w s M C A x o w1) {k : Nat} {v : Int} (hv : (s.words x.args.l)[k]? = some v) : ∃ (hk : k < o.l.length), o.l[k] = v := by
  rw [← h.ol] at hv
  exact List.getElem?_eq_some_iff.1 hv
/-- The words are asked for. -/
theorem iw_of (h : RK kb mb B lim w s M C A) (hB : B ≤ w.heap.size) (x : Jq.Ins Sl) (hx : kIns.rd w x) (h8 : x.args.l.length * 4 ≤ 140737488355320) :
    Calls Try.prog 116 #[.pointer (some ⟨kb, 0, none⟩), x.args.val] ((w.alloc (.cells #[.pointer (some ⟨kb, 0, none⟩)] 119)).alloc (.cells #[.int .i64 x.op, .int .i64 x.dst, .int .i64 x.two, x.args.val, .int .i32 x.imm] 78)) fun e w' => ∃ o, e = .returned o.val ∧ IW kb mb B lim w s M C A x o w' := by
  obtain ⟨w0, hw0⟩ : ∃ w0, w0 = (w.alloc (.cells #[.pointer (some ⟨kb, 0, none⟩)] 119)).alloc (.cells #[.int .i64 x.op, .int .i64 x.dst, .int .i64 x.two, x.args.val, .int .i32 x.imm] 78) := ⟨_, rfl⟩
  have hB0 : Below w.heap.size w w0 := by rw [hw0]; exact bal (bal (Below.refl _ _) _) _
  have h2 : w0.heap[w.heap.size]? = some (.cells [.pointer (some ⟨kb, 0, none⟩)].toArray 119 (0, 0)) := by
    rw [hw0, Below.heap_alloc _ _ _ (by simp)]
    exact heap_alloc_new _ _
  have h3 : w0.heap[w.heap.size + 1]? = some (.cells [.int .i64 x.op, .int .i64 x.dst, .int .i64 x.two, x.args.val, .int .i32 x.imm].toArray 78 (0, 0)) := by
    rw [hw0]
    exact ask_last _ _ _ (by simp)
  have hs0 : w0.heap.size = w.heap.size + 2 := by rw [hw0]; simp
  rw [← hw0]
  refine (inWords (h.go hB0) x.args (kI.sl.below hx hB0) (by omega)).mono ?_
  rintro e w1 ⟨o, rfl, hol, hoo, hob⟩
  rw [hs0] at hoo
  exact ⟨o, rfl, (h.go hB0).go hob, hoo, hol, bx_go h2 hob, bx_go h3 hob, bthen hB0 hob⟩
theorem IW.c (h : IW kb mb B lim w s M C A x o w1) : w1.cell? ⟨w.heap.size, 0, none⟩ = some (.pointer (some ⟨kb, 0, none⟩)) ∧ w1.cell? ⟨w.heap.size + 1, 0, none⟩ = some (.int .i64 x.op) ∧ w1.cell? ⟨w.heap.size + 1, 1, none⟩ = some (.int .i64 x.dst) ∧ w1.cell? ⟨w.heap.size + 1, 2, none⟩ = some (.int .i64 x.two) ∧ w1.cell? ⟨w.heap.size + 1, 4, none⟩ = some (.int .i32 x.imm) :=
  ⟨bx_cell h.b2 rfl, bx_cell h.b3 rfl, bx_cell h.b3 rfl, bx_cell h.b3 rfl, bx_cell h.b3 rfl⟩
/-- A value is put, in a world behind the words. -/
theorem RK.putW (h : RK kb mb B lim w s M C A) (n v : Int) : ∃ w', (Instr.mapUpdate 120 (.map (some mb)) (.int .i64 n) (.int .i32 v)).run Try.prog w = .ok () w' ∧ RK kb mb B lim w' (s.put n v) M C A ∧ ChI kb mb B w w' ∧ ∀ k, k ≠ mb → w'.heap[k]? = w.heap[k]? := by
  obtain ⟨l, hl, hg⟩ := h.m
  exact ⟨_, run_putKey (P := Try.prog) 120 3 _ .i64 Try.underlying120 Try.underlying3 w mb (l.map vE) n (.int .i32 v) hl, h.putm l hl hg n v, (ChI.refl w).setMap _, fun k hk => setMap_other hk⟩
set_option maxRecDepth 100000 in
set_option maxHeartbeats 1000000 in
/-- 'run.ins', of a constant. -/
theorem inInsC (h : RK kb mb B lim w s M C A) (hB : B ≤ w.heap.size) (x : Jq.Ins Sl) (hx : kIns.rd w x) (h8 : x.args.l.length * 4 ≤ 140737488355320) (hop : x.op = 1) :
    Calls Try.prog 79 #[.pointer (some ⟨kb, 0, none⟩), x.v] w (MR kb mb B lim w (.tuple #[]) (s.put x.dst x.imm)) := by
  have hc := Lib.hid (iw_of h hB x hx h8)
  have d1 : (x.op == 1) = true := by simp [hop]
  have hmf : ∀ (fn : Fn) (first cap : Array Value) (w : World), (Instr.makeFunc fn first cap).run Try.prog w = .ok (.func fn first cap) w := fun _ _ _ _ => rfl
  clear h hx hop
  go_enter Try.func79, Try.ntmps79
  go_wp2_with fail
  refine hc.out.mono ?_
  rintro e w1 ⟨o, rfl, hW⟩
  obtain ⟨c1, c2, c3, c4, c5⟩ := hW.c
  have c6 := hW.rk.c.1
  obtain ⟨w2, hput, hR, hC, _⟩ := (hW.rk.go (Below.refl _ _).drew).putW x.dst x.imm
  have hR' := Lib.hid hR
  have hC' := Lib.hid ((ChI.of hW.below.drew).trans hC)
  clear hW hR hC
  go_wp2_with fail
  go_region
  clear hput
  go_wp2_with fail
  go_end0
  exact ⟨rfl, ⟨_, _, _, hR'.out⟩, hC'.out⟩
set_option maxRecDepth 100000 in
set_option maxHeartbeats 2000000 in
/-- 'run.ins', of a word's operation. -/
theorem inInsD (h : RK kb mb B lim w s M C A) (hB : B ≤ w.heap.size) (x : Jq.Ins Sl) (hx : kIns.rd w x) (h8 : x.args.l.length * 4 ≤ 140737488355320) (h1 : x.op ≠ 1) (h15 : x.op ≠ 15) (h16 : x.op ≠ 16) (h17 : x.op ≠ 17) (h18 : x.op ≠ 18) (s' : IS) (hs : insI x.p s = some s') :
    Calls Try.prog 79 #[.pointer (some ⟨kb, 0, none⟩), x.v] w (MR kb mb B lim w (.tuple #[]) s') := by
  have hc := Lib.hid (iw_of h hB x hx h8)
  unfold insI at hs
  rw [if_neg (show ¬ x.p.op = 1 from h1), if_neg (show ¬ x.p.op = 15 from h15), if_neg (show ¬ x.p.op = 16 from h16), if_neg (show ¬ x.p.op = 17 from h17)] at hs
  split at hs
  · rename_i a b ha hb
    rw [if_neg (show ¬ x.p.op = 18 from h18)] at hs
    have d1 : (x.op == 1) = false := by simp [h1]
    have d15 : (x.op == 15) = false := by simp [h15]
    have d16 : (x.op == 16) = false := by simp [h16]
    have d17 : (x.op == 17) = false := by simp [h17]
    have d18 : (x.op == 18) = false := by simp [h18]
    have ha' := Lib.hid (show (s.words x.args.l)[0]? = some a from ha)
    have hb' := Lib.hid (show (s.words x.args.l)[1]? = some b from hb)
    have hs' := Lib.hid hs
    have hmf : ∀ (fn : Fn) (first cap : Array Value) (w : World), (Instr.makeFunc fn first cap).run Try.prog w = .ok (.func fn first cap) w := fun _ _ _ _ => rfl
    clear h hx h1 h15 h16 h17 h18 ha hb hs
    go_enter Try.func79, Try.ntmps79
    go_wp2_with fail
    refine hc.out.mono ?_
    rintro e w1 ⟨o, rfl, hW⟩
    obtain ⟨c1, c2, c3, c4, c5⟩ := hW.c
    obtain ⟨hk0, e0⟩ := hW.el ha'.out
    obtain ⟨hk1, e1⟩ := hW.el hb'.out
    obtain ⟨b4, o4, h4, hb4, hc4⟩ := getW 25 21 Try.underlying25 (by kernel_rfl) hW.own.rd 0 hk0 rfl
    obtain ⟨b5, o5, h5, hb5, hc5⟩ := getW 25 21 Try.underlying25 (by kernel_rfl) hW.own.rd 1 hk1 rfl
    rw [Nat.add_zero, e0] at hc4
    rw [e1] at hc5
    have hW' := Lib.hid hW
    clear hW e0 e1
    go_wp2_with fail
    have q1 := cell_regrown c1
    have q2 := cell_regrown c2
    have q4 := cell_regrown hc4
    have q5 := cell_regrown hc5
    have cQ : ∀ d os, Calls Try.prog 28 #[.int .i64 x.op, .int .i32 a, .int .i32 b] (grow (redrawn w1 d) os) fun e w'' => e = .returned (.tuple #[.int .i32 ((wdo x.op a b).getD 0), .bool (wdo x.op a b).isSome]) ∧ ∃ p : Regrown, w'' = grow (redrawn w1 p.d) p.os :=
      fun d os => Calls.regrown_of (wordDo x.op a b _)
    refine wp_region_quiet_below (by kernel_rfl) (by kernel_rfl) ?_
    repeat (quiet_step (exact cQ _ _))
    refine wpQuiet_nil ?_
    intro _ hw'
    obtain ⟨⟨dq, osq⟩, hw''⟩ := hw'
    subst hw''
    have hW2 := hW'.out.go (below_regrown w1 dq osq)
    obtain ⟨wq, hwq⟩ : ∃ wq, grow (redrawn w1 dq) osq = wq := ⟨_, rfl⟩
    rw [hwq] at hW2
    rw [hwq]
    clear hwq q1 q2 q4 q5 cQ c1 c2 c3 c4 c5 h4 hc4 h5 hc5 hW'
    obtain ⟨c1, c2, c3, c4, c5⟩ := hW2.c
    have c6 := hW2.rk.c.1
    obtain ⟨w2, hput, hR, hC, hM⟩ := (hW2.rk.go (Below.refl _ _).drew).putW x.dst ((wdo x.op a b).getD 0)
    have hkm : w.heap.size ≠ mb := fun e => by
      obtain ⟨lv, hlv, _⟩ := hW2.rk.m
      rw [← e, hW2.b2] at hlv
      simp [mapObj] at hlv
    have hg1 : w2.cell? ⟨w.heap.size, 0, none⟩ = some (.pointer (some ⟨kb, 0, none⟩)) := bx_cell ((hM _ hkm).trans hW2.b2) rfl
    have hR' := Lib.hid hR
    have hC' := Lib.hid ((ChI.of hW2.below.drew).trans hC)
    clear hW2 hR hC hM
    go_wp2_with fail
    go_region
    clear hput c1 c2 c3 c4 c5 c6
    cases hok : (wdo x.op a b).isSome with
    | true =>
      have hs2 := hs'.out
      rw [if_pos (show (wdo x.p.op a b).isSome = true from hok)] at hs2
      injection hs2 with hs2
      subst hs2
      go_wp2_with fail
      go_end0
      exact ⟨rfl, ⟨_, _, _, hR'.out⟩, hC'.out⟩
    | false =>
      have hs2 := hs'.out
      rw [if_neg (show ¬ (wdo x.p.op a b).isSome = true by show ¬ (wdo x.op a b).isSome = true; rw [hok]; simp)] at hs2
      injection hs2 with hs2
      subst hs2
      go_wp2_with fail
      refine (inEnd hR'.out 2 (-1)).mono ?_
      rintro e w3 ⟨rfl, hR3, hC3⟩
      have hR3' := Lib.hid hR3
      have hC3' := Lib.hid (hC'.out.trans hC3)
      clear hR3 hC3
      go_wp2_with fail
      go_end0
      exact ⟨rfl, hR3'.out, hC3'.out⟩
  · exact absurd hs (by simp)
end
end Go.Proofs.Ytjlehpgfhlkjlaa
