/-
  interp.Run, of a right function.
-/
import Derived.Test.YtjlehpgfhlkjlaaInt5
import Derived.Test.YtjlehpgfhlkjlaaInt3
import Derived.Test.YtjlehpgfhlkjlaaCkFunc
import Derived.Test.YtjlehpgfhlkjlaaEv
import Derived.WalkMore
set_option linter.all false
namespace Jq
open Go Go.RowKit
theorem insI_steps {x : Ins List} {s s' : IS} (h : insI x s = some s') : s'.steps = s.steps := by
  unfold insI at h
  repeat' (split at h)
  all_goals (cases h <;> rfl)
theorem termI_steps {t : Term List} {s s' : IS} {n : Int} (h : termI t s = some (s', n)) : s'.steps = s.steps := by
  unfold termI at h
  repeat' (split at h)
  all_goals first
    | (obtain ⟨b, _, h⟩ := Option.map_eq_some_iff.1 h; cases h; rfl)
    | (cases h <;> rfl)
theorem phisI_steps {ps : List (Phi List)} {fr : Int} {s s' : IS} (h : phisI ps fr s = some s') : s'.steps = s.steps := by
  obtain ⟨n, _, rfl⟩ := Option.map_eq_some_iff.1 h
  rfl
theorem step_steps (lim : Int) (s : IS) : s.steps ≤ (s.step lim).1.steps := by
  have e : (s.stop lim).steps = s.steps := by
    unfold IS.stop
    split <;> rfl
  unfold IS.step
  split
  · show s.steps ≤ (s.stop lim).steps
    omega
  · show s.steps ≤ (s.stop lim).steps + 1
    omega
def smallF (f : Func List) : Bool := f.blocks.all fun b => decide (b.term.args.length ≤ 4 ∧ b.term.to.length ≤ 65) && b.ins.all fun x => decide (x.args.length ≤ 4)
theorem argsI_at (l : List Int) {j : Nat} (hj : j < l.length) (f : Int → Int) : argsI j (l.drop j) f = argsI (j + 1) (l.drop (j + 1)) (putF f (j : Int) l[j]) := by
  rw [List.drop_eq_getElem_cons hj, argsI]
theorem inssI_at {lim : Int} {l : List (Ins List)} {j : Nat} (hj : j < l.length) {s : IS} {r : IS × Bool} (h : inssI lim (l.drop j) s = some r) :
    ((s.step lim).2 = false ∧ r = ((s.step lim).1, false)) ∨ ((s.step lim).2 = true ∧ ∃ s1, insI l[j] (s.step lim).1 = some s1 ∧ inssI lim (l.drop (j + 1)) s1 = some r) := by
  rw [List.drop_eq_getElem_cons hj, inssI] at h
  split at h
  · rename_i h2
    right
    refine ⟨h2, ?_⟩
    split at h
    · exact absurd h (by simp)
    · rename_i s1 h3; exact ⟨s1, h3, h⟩
  · rename_i h2
    left
    injection h with h
    exact ⟨by simpa using h2, h.symm⟩
end Jq
namespace Go.Proofs.Ytjlehpgfhlkjlaa
open Go.RowKit Jq
set_option linter.unusedVariables false
/-- An instruction does what it says. -/
def InsC (x : Jq.Ins Sl) : Prop := ∀ (kb mb B : Nat) (lim : Int) (w : World) (s : IS) (M : Sl Int) (C : Sl (Jq.Event Sl)) (A : Sl Int) (s' : IS), RK kb mb B lim w s M C A → B ≤ w.heap.size → kIns.rd w x → insI x.p s = some s' → Calls Try.prog 79 #[.pointer (some ⟨kb, 0, none⟩), x.v] w (MR kb mb B lim w (.tuple #[]) s')
/-- What Run holds. -/
structure RL (f : Jq.Func Sl) (kb mb : Nat) (lim : Int) (w wr : World) (s : IS) : Prop where
  rk : ∃ M C A, RK kb mb (w.heap.size + 3) lim wr s M C A
  b2 : wr.heap[w.heap.size]? = some (.cells [.int .i64 f.params, f.blocks.val].toArray 75 (0, 0))
  b4 : wr.heap[w.heap.size + 2]? = some (.cells [.int .i64 0, .int .i32 0, .slice none 0 0, .slice none 0 0, .int .i64 0].toArray 33 (0, 0))
  below : Below w.heap.size w wr
  st : 0 ≤ s.steps
  ge : w.heap.size + 3 ≤ kb ∧ w.heap.size + 3 ≤ mb
section
variable {f : Jq.Func Sl} {kb mb : Nat} {lim : Int} {w wr w1 : World} {s s1 : IS}
theorem RL.ch (h : RL f kb mb lim w wr s) (hR : ∃ M C A, RK kb mb (w.heap.size + 3) lim w1 s1 M C A) (hC : ChI kb mb (w.heap.size + 3) wr w1) (hs : 0 ≤ s1.steps) : RL f kb mb lim w w1 s1 := by
  obtain ⟨g1, g2⟩ := h.ge
  refine ⟨hR, hC.box h.b2 ⟨by decide, by decide⟩ (by omega) (by omega), hC.box h.b4 ⟨by decide, by decide⟩ (by omega) (by omega), h.below.trans ((hC.toBelow ⟨by omega, by omega⟩ (by have := lt_of_block h.b4; omega)).mono (by omega)), hs, h.ge⟩
theorem RL.go (h : RL f kb mb lim w wr s) (hb : Below wr.heap.size wr w1) : RL f kb mb lim w w1 s := by
  obtain ⟨M, C, A, hR⟩ := h.rk
  exact h.ch ⟨M, C, A, hR.go hb⟩ (ChI.of hb) h.st
end
theorem RK.mem0 {kb mb B : Nat} {lim : Int} {w : World} {s : IS} {A M : Sl Int} (h : RK kb mb B lim w s nilSl nilSl A) (hM : Jq.Own kW 21 B w M) : RK kb mb B lim (w.setCell ⟨kb, 3, none⟩ M.val) { s with mem := M.l } M nilSl A := by
  have hb : ∀ q, q ≠ kb → (w.setCell ⟨kb, 3, none⟩ M.val).heap[q]? = w.heap[q]? := fun q hq => Below.heap_setCell _ _ _ _ hq
  obtain ⟨l, hl, hg⟩ := h.m
  have g := h.ge
  refine ⟨?_, ⟨l, (hb _ h.ne.symm).trans hl, hg⟩, hM.mv fun q hq => hb q ?_, rfl, Own.nil _ _ _ _, fun y hy => absurd hy (by simp [nilSl]), h.cl, kW.sl.mv h.ans fun q hq => hb q ?_, h.afp, h.al, g⟩
  · have := heap_set_self (o := 3) (v := M.val) h.k
    simpa using this
  · rcases hq with hq | ⟨x, _, hq⟩
    · intro e; subst e; exact own_ne hM h.k (by decide) hq.symm
    · simp [kW, Kd.scalar] at hq
  · have := h.afp q hq
    omega
/-- What Run hands back. -/
def OutRes (w : World) (o : Jq.Outcome List) (e : Ending) (w' : World) : Prop :=
  ∃ t : Jq.Outcome Sl, e = .returned (.agg #[.int .i64 t.fin, .int .i32 t.val, t.mem.val, t.calls.val, .int .i64 t.steps]) ∧ t.p = o ∧ Jq.Own kW 21 w.heap.size w' t.mem ∧ Jq.Own kEvent 56 w.heap.size w' t.calls ∧ (∀ y, y ∈ t.calls.l → ∀ q, q ∈ kEvent.fp y → w.heap.size ≤ q ∧ some q ≠ t.mem.val.ownBlock) ∧ Below w.heap.size w w'
theorem run_out (W : World) (b : Nat) (k v st : Int) (M : Sl Int) (C : Sl (Jq.Event Sl)) (hh : W.heap[b]? = some (.cells [.int .i64 k, .int .i32 v, M.val, C.val, .int .i64 st].toArray 33 (0, 0))) (ts : Array Value) (ht : ts[4]? = some (.pointer (some ⟨b, 0, none⟩))) :
    (results Try.f37 ts).run Try.prog W = .ok (.agg #[.int .i64 k, .int .i32 v, M.val, C.val, .int .i64 st]) W := by
  have c0 : W.cell? ⟨b, 0, none⟩ = some (.int .i64 k) := by simp [World.cell?, hh]
  have c1 : W.cell? ⟨b, 1, none⟩ = some (.int .i32 v) := by simp [World.cell?, hh]
  have c2 : W.cell? ⟨b, 2, none⟩ = some M.val := by simp [World.cell?, hh]
  have c3 : W.cell? ⟨b, 3, none⟩ = some C.val := by simp [World.cell?, hh]
  have c4 : W.cell? ⟨b, 4, none⟩ = some (.int .i64 st) := by simp [World.cell?, hh]
  simp [results, Try.results37, go_sem, Array.getD_eq_getD_getElem?, ht, c0, c1, c2, c3, c4]
/-- The outcome is handed back. -/
theorem RL.post {f : Jq.Func Sl} {kb mb : Nat} {lim : Int} {w wr : World} {s : IS} {M : Sl Int} {C : Sl (Jq.Event Sl)} {A : Sl Int} (h : RL f kb mb lim w wr s) (hR : RK kb mb (w.heap.size + 3) lim wr s M C A) (ts : Array Value) (ht : ts[4]? = some (.pointer (some ⟨w.heap.size + 2, 0, none⟩))) :
    bodyPost Try.prog Try.f37 (OutRes w s.out) .ret { tmps := ts, defers := [] } (((((wr.setCell ⟨w.heap.size + 2, 0, none⟩ (.int .i64 s.fin)).setCell ⟨w.heap.size + 2, 1, none⟩ (.int .i32 s.val)).setCell ⟨w.heap.size + 2, 2, none⟩ M.val).setCell ⟨w.heap.size + 2, 3, none⟩ C.val).setCell ⟨w.heap.size + 2, 4, none⟩ (.int .i64 s.steps)) := by
  have e := heap_set_self (o := 4) (v := .int .i64 s.steps) (heap_set_self (o := 3) (v := C.val) (heap_set_self (o := 2) (v := M.val) (heap_set_self (o := 1) (v := .int .i32 s.val) (heap_set_self (o := 0) (v := .int .i64 s.fin) h.b4))))
  have hch : Chg (fun q => q = w.heap.size + 2) wr (((((wr.setCell ⟨w.heap.size + 2, 0, none⟩ (.int .i64 s.fin)).setCell ⟨w.heap.size + 2, 1, none⟩ (.int .i32 s.val)).setCell ⟨w.heap.size + 2, 2, none⟩ M.val).setCell ⟨w.heap.size + 2, 3, none⟩ C.val).setCell ⟨w.heap.size + 2, 4, none⟩ (.int .i64 s.steps)) :=
    ((((((Chg.refl (fun q => q = w.heap.size + 2) wr).set (w.heap.size + 2) 0 _ (Or.inl rfl)).set (w.heap.size + 2) 1 _ (Or.inl rfl)).set (w.heap.size + 2) 2 _ (Or.inl rfl)).set (w.heap.size + 2) 3 _ (Or.inl rfl)).set (w.heap.size + 2) 4 _ (Or.inl rfl))
  have hM2 : M.val.ownBlock ≠ some (w.heap.size + 2) := own_ne hR.mem h.b4 (by decide)
  have hC2 : C.val.ownBlock ≠ some (w.heap.size + 2) := own_ne hR.calls h.b4 (by decide)
  refine bodyPost_ret (run_out _ (w.heap.size + 2) s.fin s.val s.steps M C (by simpa using e) _ ht) rfl ⟨⟨s.fin, s.val, M, C, s.steps⟩, rfl, ?_, ?_, ?_, ?_, ?_⟩
  · show (⟨s.fin, s.val, M.l, C.l.map Jq.Event.p, s.steps⟩ : Jq.Outcome List) = ⟨s.fin, s.val, s.mem, s.calls, s.steps⟩
    rw [hR.ml, hR.cl]
  · refine (hR.mem.lower (by omega)).mv fun q hq => ?_
    rcases hq with hq | ⟨y, _, hq⟩
    · exact hch.block q (hR.mem.lt q (Or.inl hq)) fun e => hM2 (by rw [← e]; exact hq.symm)
    · simp [kW, Kd.scalar] at hq
  · refine (hR.calls.lower (by omega)).mv fun q hq => ?_
    rcases hq with hq | ⟨y, hy, hq⟩
    · exact hch.block q (hR.calls.lt q (Or.inl hq)) fun e => hC2 (by rw [← e]; exact hq.symm)
    · exact hch.block q (hR.calls.lt q (Or.inr ⟨y, hy, hq⟩)) fun e => by have := (hR.cfp y hy q hq).1; omega
  · intro y hy q hq
    have := hR.cfp y hy q hq
    exact ⟨by omega, this.2.2.2⟩
  · exact ⟨hch.os.trans h.below.os, hch.tape.trans h.below.tape, hch.output.trans h.below.output, Nat.le_trans h.below.size hch.size, fun q hq => (hch.block q (by have := h.below.size; omega) (by omega)).trans (h.below.block q hq)⟩
set_option maxRecDepth 100000 in
set_option maxHeartbeats 4000000 in
/-- 'interp.Run'. -/
theorem inRun (f : Jq.Func Sl) (x : Jq.Input Sl) (fuel n : Nat) (sF : IS) (w : World) (hf : kFunc.rd w f) (hx : kInput.rd w x) (hr : rightRows f.p (rowsOf f.p) fuel = true) (hsm : smallF f.p = true) (hI : ∀ b, b ∈ f.blocks.l → ∀ i, i ∈ b.ins.l → InsC i) (hst : x.steps ≤ 1099511627776) (h : runI f.p x.p n = some sF) :
    Calls Try.prog 37 #[.agg #[.int .i64 f.params, f.blocks.val], .agg #[x.args.val, x.mem.val, x.answers.val, .int .i64 x.steps]] w (OutRes w sF.out) := by
  have hsm1 : ∀ b, b ∈ f.blocks.l → b.term.args.l.length ≤ 4 ∧ b.term.to.l.length ≤ 65 := fun b hb => by
    have h1 := List.all_eq_true.1 hsm b.p (List.mem_map_of_mem hb)
    rw [Bool.and_eq_true, decide_eq_true_eq] at h1
    exact h1.1
  have hpar : 0 ≤ f.params ∧ f.params ≤ 4 := by
    have h1 := hr
    unfold rightRows at h1
    simp only [Bool.and_eq_true, decide_eq_true_eq] at h1
    exact h1.1.1.1
  have hsm1' := Lib.hid hsm1
  have hf' := Lib.hid hf
  have hx' := Lib.hid hx
  have hI' := Lib.hid hI
  have h' := Lib.hid h
  have hR := Lib.hid (fun W (hW : Below w.heap.size w W) => ckRight f fuel W (kFunc.below hf hW) hr (fun b hb => by have := (hsm1 b hb).2; omega))
  clear hf hx hI h hsm1 hr hsm
  go_enter Try.func37, Try.ntmps37
  go_wp2_with fail
  apply wp_scope_straight
  go_wp2_with fail
  obtain ⟨w0, hw0⟩ : ∃ w0, w0 = ((w.alloc (.cells #[.int .i64 f.params, f.blocks.val] 75)).alloc (.cells #[x.args.val, x.mem.val, x.answers.val, .int .i64 x.steps] 27)).alloc (.cells #[.int .i64 0, .int .i32 0, .slice none 0 0, .slice none 0 0, .int .i64 0] 33) := ⟨_, rfl⟩
  have hB0 : Below w.heap.size w w0 := by rw [hw0]; exact bal (bal (bal (Below.refl _ _) _) _) _
  have hs0 : w0.heap.size = w.heap.size + 3 := by rw [hw0]; simp
  have h02 : w0.heap[w.heap.size]? = some (.cells [.int .i64 f.params, f.blocks.val].toArray 75 (0, 0)) := by
    rw [hw0, Below.heap_alloc _ _ _ (by simp <;> omega), Below.heap_alloc _ _ _ (by simp)]
    exact heap_alloc_new _ _
  have h03 : w0.heap[w.heap.size + 1]? = some (.cells [x.args.val, x.mem.val, x.answers.val, .int .i64 x.steps].toArray 27 (0, 0)) := by
    rw [hw0, Below.heap_alloc _ _ _ (by simp)]
    exact ask_last _ _ _ (by simp)
  have h04 : w0.heap[w.heap.size + 2]? = some (.cells [.int .i64 0, .int .i32 0, .slice none 0 0, .slice none 0 0, .int .i64 0].toArray 33 (0, 0)) := by
    rw [hw0]
    exact ask_last _ _ _ (by simp)
  rw [← hw0]
  clear hw0
  refine (hR.out w0 hB0).mono ?_
  rintro e w1 ⟨rfl, hb1⟩
  have hB1 := Lib.hid (bthen hB0 hb1)
  have h12 := Lib.hid (bx_go h02 hb1)
  have h13 := Lib.hid (bx_go h03 hb1)
  have h14 := Lib.hid (bx_go h04 hb1)
  have hs1 := Lib.hid (show w.heap.size + 3 ≤ w1.heap.size by have := hb1.size; omega)
  have i2 : w1.cell? ⟨w.heap.size + 1, 2, none⟩ = some x.answers.val := bx_cell h13.out rfl
  have i3 : w1.cell? ⟨w.heap.size + 1, 3, none⟩ = some (.int .i64 x.steps) := bx_cell h13.out rfl
  have i0 : w1.cell? ⟨w.heap.size + 1, 0, none⟩ = some x.args.val := bx_cell h13.out rfl
  have i1 : w1.cell? ⟨w.heap.size + 1, 1, none⟩ = some x.mem.val := bx_cell h13.out rfl
  have hmm := run_newMap (P := Try.prog) 120 .i64
  have hl1 : w.heap.size + 1 < w1.heap.size := by have := hs1.out; omega
  have hB2 : Below w1.heap.size w1 ((w1.alloc (mapObj .i64 [])).alloc (.cells #[.map (some w1.heap.size), .int .i64 0, .int .i32 0, .slice none 0 0, .slice none 0 0, .int .i64 0, x.answers.val, .int .i64 x.steps] 122)) := bal (bal (Below.refl _ _) _) _
  have j0 := bx_cell (j := 0) (bx_go h13.out hB2) rfl
  have j1 := bx_cell (j := 1) (bx_go h13.out hB2) rfl
  have j2 := bx_cell (j := 2) (bx_go h13.out hB2) rfl
  have j3 := bx_cell (j := 3) (bx_go h13.out hB2) rfl
  obtain ⟨W2, hW2⟩ : ∃ W2, W2 = ((w1.alloc (mapObj .i64 [])).alloc (.cells #[.map (some w1.heap.size), .int .i64 0, .int .i32 0, .slice none 0 0, .slice none 0 0, .int .i64 0, x.answers.val, .int .i64 x.steps] 122)) := ⟨_, rfl⟩
  have hk0 : RK (w1.heap.size + 1) w1.heap.size (w.heap.size + 3) x.steps W2 ⟨fun _ => 0, 0, 0, [], [], 0, x.answers.l⟩ nilSl nilSl x.answers := by
    have hsz := hs1.out
    have hB := bthen hB1.out hB2
    rw [← hW2] at hB
    refine ⟨by rw [hW2]; exact ask_last _ _ _ (by simp), ⟨[], by rw [hW2, Below.heap_alloc _ _ _ (by simp)]; exact heap_alloc_new _ _, fun _ => rfl⟩, Own.nil _ _ _ _, rfl, Own.nil _ _ _ _, fun y hy => absurd hy (by simp [nilSl]), rfl, kW.sl.below hx'.out.2.2 hB, fun q hq => by have := kW.sl.lt hx'.out.2.2 q hq; omega, rfl, by omega⟩
  have hBW := Lib.hid (show Below w.heap.size w W2 from by rw [hW2]; exact bthen hB1.out hB2)
  have h22 := Lib.hid (show W2.heap[w.heap.size]? = some (.cells [.int .i64 f.params, f.blocks.val].toArray 75 (0, 0)) from by rw [hW2]; exact bx_go h12.out hB2)
  have h23 := Lib.hid (show W2.heap[w.heap.size + 1]? = some (.cells [x.args.val, x.mem.val, x.answers.val, .int .i64 x.steps].toArray 27 (0, 0)) from by rw [hW2]; exact bx_go h13.out hB2)
  have h24 := Lib.hid (show W2.heap[w.heap.size + 2]? = some (.cells [.int .i64 0, .int .i32 0, .slice none 0 0, .slice none 0 0, .int .i64 0].toArray 33 (0, 0)) from by rw [hW2]; exact bx_go h14.out hB2)
  have hs2 := Lib.hid (show W2.heap.size = w1.heap.size + 2 by rw [hW2]; simp)
  have hk0' := Lib.hid hk0
  have hW2' := Lib.hid hW2
  clear hB0 hs0 h02 h03 h04 hb1 hR hB2 hk0 hW2
  go_wp2_with fail
  rw [show ((w1.alloc (mapObj .i64 [])).alloc (.cells #[.map (some w1.heap.size), .int .i64 0, .int .i32 0, .slice none 0 0, .slice none 0 0, .int .i64 0, x.answers.val, .int .i64 x.steps] 122)) = W2 from hW2'.out.symm]
  clear i0 i1 i2 i3 j0 j1 j2 j3 hmm
  refine (interpMemory x W2 (kInput.below hx'.out hBW.out)).mono ?_
  rintro e w3 ⟨M0, rfl, hMl, hMo, hb3⟩
  have hR3 := hk0'.out.go hb3
  have hM3 := hR3.mem0 (hMo.lower (base' := w.heap.size + 3) (by have := hs1.out; have := hs2.out; omega))
  obtain ⟨kb, hkb⟩ : ∃ kb, kb = w1.heap.size + 1 := ⟨_, rfl⟩
  obtain ⟨mb, hmb⟩ : ∃ mb, mb = w1.heap.size := ⟨_, rfl⟩
  have d3 : w3.cell? ⟨kb, 3, none⟩ = some (.slice none 0 0) := by rw [hkb]; exact hR3.c.2.2.2.1
  have f3 : w3.frozen? ⟨kb, 3, none⟩ = false := by rw [hkb]; exact hR3.c.2.2.2.2.2.2.2.2 3
  rw [← hkb, ← hmb] at hM3
  have hkw : w.heap.size + 3 ≤ kb ∧ w.heap.size + 3 ≤ mb := by have := hs1.out; omega
  have hL0 : RL f kb mb x.steps w (w3.setCell ⟨kb, 3, none⟩ M0.val) ⟨fun _ => 0, 0, 0, M0.l, [], 0, x.answers.l⟩ :=
    ⟨⟨_, _, _, hM3⟩, (Below.heap_setCell _ _ _ _ (by show w.heap.size ≠ kb; omega)).trans (bx_go h22.out hb3), (Below.heap_setCell _ _ _ _ (by show w.heap.size + 2 ≠ kb; omega)).trans (bx_go h24.out hb3), bset (bthen hBW.out hb3) _ _ (by show w.heap.size ≤ kb; omega), Int.le_refl _, hkw⟩
  have h33 : (w3.setCell ⟨kb, 3, none⟩ M0.val).heap[w.heap.size + 1]? = some (.cells [x.args.val, x.mem.val, x.answers.val, .int .i64 x.steps].toArray 27 (0, 0)) := (Below.heap_setCell _ _ _ _ (by show w.heap.size + 1 ≠ kb; omega)).trans (bx_go h23.out hb3)
  have i0 := bx_cell (j := 0) h33 rfl
  have i1 := bx_cell (j := 0) hL0.b2 rfl
  obtain ⟨pn, hpn⟩ : ∃ pn : Nat, f.params = (pn : Int) := ⟨f.params.toNat, by omega⟩
  obtain ⟨k0, hk0⟩ : ∃ k0 : Nat, k0 = min x.args.l.length pn := ⟨_, rfl⟩
  have hmn : min (x.args.l.length : Int) f.params = (k0 : Int) := by rw [hpn, hk0]; omega
  have hcut : ∀ W : World, (Instr.sliceAt 25 x.args.val none (some (.int .i64 (k0 : Int))) none).run Try.prog W = .ok (x.args.tk k0).val W := fun W => run_take 25 21 1 Try.underlying25 (by kernel_rfl) x.args k0 (by rw [hk0]; exact Nat.min_le_left _ _) (Kd.cap_ (d := kW) hx'.out.1) W
  have htl : (x.args.tk k0).l.length = k0 := by simp only [Sl.tk, List.length_take]; rw [hk0]; omega
  have hba := Kd.bound (d := kW) hx'.out.1
  have hkx : k0 ≤ x.args.l.length := by rw [hk0]; exact Nat.min_le_left _ _
  have htx : (x.args.tk k0).l = x.args.l.take pn := by
    show x.args.l.take k0 = _
    rw [hk0]
    by_cases hc : pn ≤ x.args.l.length
    · rw [Nat.min_eq_right hc]
    · rw [Nat.min_eq_left (by omega), List.take_of_length_le (Nat.le_refl _), List.take_of_length_le (by omega)]
  have hMl' := Lib.hid hMl
  have hL0' := Lib.hid hL0
  have htx' := Lib.hid htx
  have hpn' := Lib.hid hpn
  clear hR3 hM3 hL0 h33 hMl hMo hb3 hk0 htx hpn h12 h13 h14
  rw [← hkb, ← hmb]
  clear hkb hmb hk0' h22 h23 h24
  go_wp2_with fail
  clear i0 i1 d3 f3 hcut
  go_loopg [40] (k0) (fun g q wr => ∃ (j : Nat) (v : Int → Int), q = .int .i64 j ∧ j ≤ k0 ∧ g = k0 - j ∧ RL f kb mb x.steps w wr ⟨v, 0, 0, M0.l, [], 0, x.answers.l⟩ ∧ argsI j ((x.args.tk k0).l.drop j) v = argsI 0 (x.args.l.take pn) (fun _ => 0))
  case atStart => exact ⟨0, _, by simp [htl], Nat.zero_le _, rfl, hL0'.out, by rw [htx'.out]; rfl⟩
  case round =>
    obtain ⟨j, v, rfl, hj, hg, hL, hav⟩ := hrel
    have hg' := Lib.hid hg
    have hL1 := Lib.hid hL
    have hav' := Lib.hid hav
    clear hg hL hav
    by_cases hlt : j < k0
    · have hlt2 : j < (x.args.tk k0).l.length := by omega
      obtain ⟨b1, o1, h1, hb1, hc1⟩ := getW 25 21 Try.underlying25 (by kernel_rfl) (tk_rd (kW.sl.below hx'.out.1 hL1.out.below) k0) j hlt2 rfl
      have hst := argsI_at (x.args.tk k0).l hlt2 v
      obtain ⟨M5, C5, A5, hR5⟩ := hL1.out.rk
      have c0 := hR5.c.1
      obtain ⟨w2, hput, hR6, hC6, _⟩ := hR5.putW (j : Int) (x.args.tk k0).l[j]
      have hL2 := Lib.hid (hL1.out.ch ⟨_, _, _, hR6⟩ hC6 (Int.le_refl _))
      have hst' := Lib.hid hst
      clear hR5 hR6 hC6 hst
      go_wp2_with fail
      go_roundg (k0 - (j + 1))
      case measure => have := hg'.out; omega
      case rel => exact ⟨j + 1, _, by go_num, by omega, rfl, hL2.out, by rw [← hst'.out]; exact hav'.out⟩
    · have hjk : j = k0 := by omega
      subst hjk
      have hv : v = argsI 0 (x.args.l.take pn) (fun _ => 0) := by
        have h := hav'.out
        rw [List.drop_of_length_le (by omega), argsI] at h
        exact h
      have hL2 := Lib.hid (show RL f kb mb x.steps w wr (is0 f.p.params x.p) from by
        have h := hL1.out
        rw [hv, hMl'.out] at h
        unfold is0
        rw [show f.p.params = (pn : Int) from hpn'.out, Int.toNat_natCast]
        exact h)
      clear hv
      go_wp2_with fail
      apply wp_label
      go_wp2_with fail
      go_loopg [8, 9] (n) (fun g a r wr => ∃ (at_ fr : Int) (s : IS) (k : Nat), a = .int .i64 at_ ∧ r = .int .i64 fr ∧ g = k ∧ RL f kb mb x.steps w wr s ∧ blocksI f.p.blocks x.steps k at_ fr s = some sF)
      case atStart => exact ⟨0, -1, _, n, rfl, rfl, rfl, hL2.out, h'.out⟩
      case round =>
        clear hL1 hL2 hav' hg' hj hlt
        obtain ⟨at_, fr, s, k, rfl, rfl, hg, hL, hb⟩ := hrel
        have hgk' := Lib.hid hg
        have hL1 := Lib.hid hL
        clear hg hL
        cases k with
        | zero => exact absurd hb (by simp [blocksI])
        | succ k =>
          rw [blocksI] at hb
          split at hb
          · exact absurd hb (by simp)
          rename_i hat0
          obtain ⟨ka, rfl⟩ : ∃ ka : Nat, at_ = (ka : Int) := ⟨at_.toNat, by omega⟩
          rw [Int.toNat_natCast] at hb
          split at hb
          · exact absurd hb (by simp)
          rename_i bp hbp
          obtain ⟨hka, hbq⟩ := List.getElem?_eq_some_iff.1 hbp
          have hkb2 : ka < f.blocks.l.length := by simpa [Func.p] using hka
          have hbq2 : f.blocks.l[ka].p = bp := by rw [← hbq]; simp [Func.p]
          subst hbq2
          split at hb
          · exact absurd hb (by simp)
          rename_i s1 hph
          obtain ⟨s2, fl, hin, hrest⟩ : ∃ s2 fl, inssI x.steps f.blocks.l[ka].p.ins s1 = some (s2, fl) ∧ ((fl = false ∧ s2 = sF) ∨ (fl = true ∧ (((s2.step x.steps).2 = false ∧ (s2.step x.steps).1 = sF) ∨ ((s2.step x.steps).2 = true ∧ ∃ s3 nx, termI f.blocks.l[ka].p.term (s2.step x.steps).1 = some (s3, nx) ∧ ((s3.fin ≠ 0 ∧ s3 = sF) ∨ (s3.fin = 0 ∧ blocksI f.p.blocks x.steps k nx ka s3 = some sF)))))) := by
            split at hb
            · exact absurd hb (by simp)
            · rename_i s2 hin
              injection hb with hb
              exact ⟨s2, false, hin, .inl ⟨rfl, hb⟩⟩
            · rename_i s2 hin
              refine ⟨s2, true, hin, .inr ⟨rfl, ?_⟩⟩
              split at hb
              · rename_i hst
                right
                refine ⟨hst, ?_⟩
                split at hb
                · exact absurd hb (by simp)
                · rename_i s3 nx htm
                  refine ⟨s3, nx, htm, ?_⟩
                  split at hb
                  · rename_i hne
                    injection hb with hb
                    exact .inl ⟨hne, hb⟩
                  · rename_i hne
                    exact .inr ⟨by simpa using hne, hb⟩
              · rename_i hst
                injection hb with hb
                exact .inl ⟨by simpa using hst, hb⟩
          obtain ⟨bb, bo, hat, hbb, ⟨e0, e1, e2, e3, e4, e5⟩, hrb⟩ := getBlock 73 88 Try.underlying73 (by kernel_rfl) (kBlock.sl.below hf'.out hL1.out.below) ka hkb2 rfl
          have i1 := bx_cell (j := 1) hL1.out.b2 rfl
          have hwl : w.heap.size < wr.heap.size := lt_of_block hL1.out.b2
          have hbi := Kd.bound (d := kIns) hrb.2.1
          have hph' := Lib.hid hph
          have hin' := Lib.hid hin
          have hrest' := Lib.hid hrest
          have hBx : Below wr.heap.size wr (wr.alloc (.cells (kBlock.cs f.blocks.l[ka]).toArray 88)) := bal (Below.refl _ _) _
          have hL2 := Lib.hid (hL1.out.go hBx)
          have hx10 : (wr.alloc (.cells (kBlock.cs f.blocks.l[ka]).toArray 88)).heap[wr.heap.size]? = some (.cells (kBlock.cs f.blocks.l[ka]).toArray 88 (0, 0)) := heap_alloc_new _ _
          have hkm : kb < wr.heap.size ∧ mb < wr.heap.size := by
            obtain ⟨M5, C5, A5, hR5⟩ := hL1.out.rk
            obtain ⟨lv, hlv, _⟩ := hR5.m
            exact ⟨lt_of_block hR5.k, lt_of_block hlv⟩
          have hx10' := Lib.hid hx10
          have hrb' := Lib.hid (kBlock.below hrb hBx)
          have hkm' := Lib.hid hkm
          clear hb hrb hph hin hrest hBx hx10 hbp hka hbq hat0 hkm
          go_wp2_with fail
          clear hat e0 e1 e2 e3 e4 e5 i1
          obtain ⟨g10, hg10⟩ : ∃ g10, g10 = wr.heap.size := ⟨_, rfl⟩
          obtain ⟨M5, C5, A5, hR5⟩ := hL2.out.rk
          have hkm := hkm'.out
          have hg1 := hL1.out.ge
          refine (inPhis hR5 (by have := hg1; simp; omega) f.blocks.l[ka].phis hrb'.out.1 fr s1 hph'.out).mono ?_
          rintro e w4 ⟨rfl, hR4, hC4⟩
          have hL4 := Lib.hid (hL2.out.ch hR4 hC4 (by rw [phisI_steps hph'.out]; exact hL2.out.st))
          have hx4 := Lib.hid (hC4.box hx10'.out ⟨by decide, by decide⟩ (by omega) (by omega))
          have hgk : g10 ≠ kb ∧ g10 ≠ mb := by omega
          have c1 : w4.cell? ⟨wr.heap.size, 1, none⟩ = some f.blocks.l[ka].ins.val := bx_cell hx4.out rfl
          rw [← hg10] at hx4 c1 ⊢
          clear hR5 hR4 hC4 hkm hg1 hg10
          go_wp2_with fail
          clear c1
          go_loopg [65] (f.blocks.l[ka].ins.l.length) (fun g q wr => ∃ (j : Nat) (s : IS), q = .int .i64 j ∧ j ≤ f.blocks.l[ka].ins.l.length ∧ g = f.blocks.l[ka].ins.l.length - j ∧ RL f kb mb x.steps w wr s ∧ wr.heap[g10]? = some (.cells (kBlock.cs f.blocks.l[ka]).toArray 88 (0, 0)) ∧ inssI x.steps (f.blocks.l[ka].p.ins.drop j) s = some (s2, fl))
          case atStart => exact ⟨0, s1, rfl, Nat.zero_le _, rfl, hL4.out, hx4.out, hin'.out⟩
          case round =>
            clear hL4 hx4 hin' hL1 hL2 hx10' hrb' hkm' hph'
            obtain ⟨j, s, rfl, hj, hg, hL, hx, hin⟩ := hrel
            have hgj := Lib.hid hg
            have hL1 := Lib.hid hL
            have hx1 := Lib.hid hx
            have hin' := Lib.hid hin
            clear hg hL hx hin
            by_cases hjl : j < f.blocks.l[ka].ins.l.length
            · have hfr := (kBlock.sl.below hf'.out hL1.out.below).2.2.2 _ (List.getElem_mem hkb2)
              obtain ⟨b3, o3, hat3, hb3, ⟨d0, d1, d2, d3, d4⟩, hrm⟩ := getIns 79 78 Try.underlying79 (by kernel_rfl) hfr.2.1 j hjl rfl
              have hcs := inssI_at (by simpa [Block.p] using hjl) hin'.out
              have hIC := Lib.hid (hI'.out _ (List.getElem_mem hkb2) _ (List.getElem_mem hjl))
              obtain ⟨X, hX⟩ : ∃ X, X = f.blocks.l[ka].ins.l[j] := ⟨_, rfl⟩
              rw [show f.blocks.l[ka].p.ins[j]'(by simpa [Block.p] using hjl) = X.p by rw [hX]; simp [Block.p]] at hcs
              rw [← hX] at d0 d1 d2 d3 d4 hrm hIC
              have hBx : Below wr.heap.size wr (wr.alloc (.cells #[.int .i64 X.op, .int .i64 X.dst, .int .i64 X.two, X.args.val, .int .i32 X.imm] 78)) := bal (Below.refl _ _) _
              have hL2 := Lib.hid (hL1.out.go hBx)
              have hx2 := Lib.hid (bx_go hx1.out hBx)
              have hx12 := Lib.hid (show (wr.alloc (.cells #[.int .i64 X.op, .int .i64 X.dst, .int .i64 X.two, X.args.val, .int .i32 X.imm] 78)).heap[wr.heap.size]? = some (.cells [.int .i64 X.op, .int .i64 X.dst, .int .i64 X.two, X.args.val, .int .i32 X.imm].toArray 78 (0, 0)) from heap_alloc_new _ _)
              have hrm' := Lib.hid (kIns.below hrm hBx)
              have hcs' := Lib.hid hcs
              have hXX := Lib.hid hX
              clear hX hrm hBx hcs hfr
              go_wp2_with fail
              clear hat3 d0 d1 d2 d3 d4
              obtain ⟨M5, C5, A5, hR5⟩ := hL2.out.rk
              have hkm : kb < wr.heap.size ∧ mb < wr.heap.size := by
                obtain ⟨M7, C7, A7, hR7⟩ := hL1.out.rk
                obtain ⟨lv, hlv, _⟩ := hR7.m
                exact ⟨lt_of_block hR7.k, lt_of_block hlv⟩
              refine (inStep hR5 hL2.out.st hst).mono ?_
              rintro e w5 ⟨rfl, hR6, hC6⟩
              have hL5 := Lib.hid (hL2.out.ch hR6 hC6 (Int.le_trans hL2.out.st (step_steps _ _)))
              have hx5 := Lib.hid (hC6.box hx2.out ⟨by decide, by decide⟩ hgk.1 hgk.2)
              have hx15 := Lib.hid (hC6.box hx12.out ⟨by decide, by decide⟩ (by omega) (by omega))
              have hrm5 := Lib.hid (show kIns.rd w5 X from by
                rw [hXX.out]
                exact ((kBlock.sl.below hf'.out hL5.out.below).2.2.2 _ (List.getElem_mem hkb2)).2.1.2.2.2 _ (List.getElem_mem hjl))
              clear hR5 hR6 hC6 hkm hx12 hrm' hx2 hL2
              rcases hcs'.out with ⟨hs, hr⟩ | ⟨hs, s3, hi3, hin3⟩
              · rw [hs]
                simp only [Prod.mk.injEq] at hr
                obtain ⟨hr1, hr2⟩ := hr
                have hsF : (s.step x.steps).1 = sF := by
                  rcases hrest'.out with ⟨_, h2⟩ | ⟨h1, _⟩
                  · rw [← hr1]; exact h2
                  · rw [hr2] at h1; exact absurd h1 (by simp)
                rw [hsF] at hL5
                clear hs hr1 hr2 hsF
                obtain ⟨M5, C5, A5, hR5⟩ := hL5.out.rk
                obtain ⟨e0, e1, e2, e3, e4, e5, e6, e7, ef⟩ := hR5.c
                have o0 := bx_cell (j := 0) hL5.out.b4 rfl
                have o1 := bx_cell (j := 1) hL5.out.b4 rfl
                have o2 := bx_cell (j := 2) hL5.out.b4 rfl
                have o3 := bx_cell (j := 3) hL5.out.b4 rfl
                have o4 := bx_cell (j := 4) hL5.out.b4 rfl
                have of : ∀ j, w5.frozen? ⟨w.heap.size + 2, j, none⟩ = false := fun j => by simp [World.frozen?, hL5.out.b4]
                have hR5' := Lib.hid hR5
                clear hR5
                go_wp2_with fail
                exact hL5.out.post hR5'.out _ rfl
              · rw [hs]
                have hi3' := Lib.hid hi3
                have hin3' := Lib.hid hin3
                have y0 := bx_cell (j := 0) hx15.out rfl
                have y1 := bx_cell (j := 1) hx15.out rfl
                have y2 := bx_cell (j := 2) hx15.out rfl
                have y3 := bx_cell (j := 3) hx15.out rfl
                have y4 := bx_cell (j := 4) hx15.out rfl
                obtain ⟨M5, C5, A5, hR5⟩ := hL5.out.rk
                have hR5' := Lib.hid hR5
                clear hs hi3 hin3 hR5
                go_wp2_with fail
                clear y0 y1 y2 y3 y4
                refine (hIC.out kb mb (w.heap.size + 3) x.steps w5 _ M5 C5 A5 s3 hR5'.out (by have := lt_of_block hL5.out.b4; omega) hrm5.out hi3'.out).mono ?_
                rintro e w6 ⟨rfl, hR6, hC6⟩
                have hL6 := Lib.hid (hL5.out.ch hR6 hC6 (by rw [insI_steps hi3'.out]; exact hL5.out.st))
                have hx6 := Lib.hid (hC6.box hx5.out ⟨by decide, by decide⟩ hgk.1 hgk.2)
                clear hR6 hC6
                go_wp2_with fail
                go_roundg (f.blocks.l[ka].ins.l.length - (j + 1))
                case measure => have := hgj.out; omega
                case rel => exact ⟨j + 1, s3, by go_num, by omega, rfl, hL6.out, hx6.out, hin3'.out⟩
            · have hjx : j = f.blocks.l[ka].ins.l.length := by omega
              subst hjx
              have he := hin'.out
              rw [List.drop_of_length_le (by simp [Block.p]), inssI] at he
              simp only [Option.some.injEq, Prod.mk.injEq] at he
              obtain ⟨rfl, rfl⟩ := he
              rcases hrest'.out with ⟨h1, _⟩ | ⟨_, hor⟩
              · exact absurd h1 (by simp)
              have hor' := Lib.hid hor
              clear hor hjl hj
              obtain ⟨M5, C5, A5, hR5⟩ := hL1.out.rk
              have hR5' := Lib.hid hR5
              clear hR5
              go_wp2_with fail
              refine (inStep hR5'.out hL1.out.st hst).mono ?_
              rintro e w5 ⟨rfl, hR6, hC6⟩
              have hL5 := Lib.hid (hL1.out.ch hR6 hC6 (Int.le_trans hL1.out.st (step_steps _ _)))
              have hx5 := Lib.hid (hC6.box hx1.out ⟨by decide, by decide⟩ hgk.1 hgk.2)
              clear hR6 hC6
              rcases hor'.out with ⟨hs, hsF⟩ | ⟨hs, s3, nx, htm, hor2⟩
              · rw [hs]
                rw [hsF] at hL5
                clear hs hsF
                obtain ⟨M5, C5, A5, hR5⟩ := hL5.out.rk
                obtain ⟨e0, e1, e2, e3, e4, e5, e6, e7, ef⟩ := hR5.c
                have o0 := bx_cell (j := 0) hL5.out.b4 rfl
                have o1 := bx_cell (j := 1) hL5.out.b4 rfl
                have o2 := bx_cell (j := 2) hL5.out.b4 rfl
                have o3 := bx_cell (j := 3) hL5.out.b4 rfl
                have o4 := bx_cell (j := 4) hL5.out.b4 rfl
                have of : ∀ j, w5.frozen? ⟨w.heap.size + 2, j, none⟩ = false := fun j => by simp [World.frozen?, hL5.out.b4]
                have hR5' := Lib.hid hR5
                clear hR5
                go_wp2_with fail
                exact hL5.out.post hR5'.out _ rfl
              · rw [hs]
                have htm' := Lib.hid htm
                have hor2' := Lib.hid hor2
                have y2 := bx_cell (j := 2) hx5.out rfl
                have y3 := bx_cell (j := 3) hx5.out rfl
                have y4 := bx_cell (j := 4) hx5.out rfl
                have y5 := bx_cell (j := 5) hx5.out rfl
                obtain ⟨M7, C7, A7, hR7⟩ := hL5.out.rk
                have hR7' := Lib.hid hR7
                have hfr := Lib.hid ((kBlock.sl.below hf'.out hL5.out.below).2.2.2 _ (List.getElem_mem hkb2)).2.2
                have hsz := hsm1'.out _ (List.getElem_mem hkb2)
                clear hs htm hor2 hR7
                go_wp2_with fail
                clear y2 y3 y4 y5
                refine (inTerm hR7'.out f.blocks.l[ka].term hfr.out (by omega) (by omega) s3 nx htm'.out).mono ?_
                rintro e w6 ⟨rfl, hR8, hC8⟩
                have hL6 := Lib.hid (hL5.out.ch hR8 hC8 (by rw [termI_steps htm'.out]; exact hL5.out.st))
                clear hR8 hC8
                obtain ⟨M9, C9, A9, hR9⟩ := hL6.out.rk
                have z1 := hR9.c.2.1
                clear hR9
                rcases hor2'.out with ⟨hne, hsF⟩ | ⟨hne, hnx⟩
                · subst hsF
                  have hnb : (s3.fin != 0) = true := by simpa using hne
                  clear hne
                  obtain ⟨M5, C5, A5, hR5⟩ := hL6.out.rk
                  obtain ⟨e0, e1, e2, e3, e4, e5, e6, e7, ef⟩ := hR5.c
                  have o0 := bx_cell (j := 0) hL6.out.b4 rfl
                  have o1 := bx_cell (j := 1) hL6.out.b4 rfl
                  have o2 := bx_cell (j := 2) hL6.out.b4 rfl
                  have o3 := bx_cell (j := 3) hL6.out.b4 rfl
                  have o4 := bx_cell (j := 4) hL6.out.b4 rfl
                  have of : ∀ j, w6.frozen? ⟨w.heap.size + 2, j, none⟩ = false := fun j => by simp [World.frozen?, hL6.out.b4]
                  have hR5' := Lib.hid hR5
                  clear hR5
                  go_wp2_with fail
                  exact hL6.out.post hR5'.out _ rfl
                · have hnb : (s3.fin != 0) = false := by simp [hne]
                  have hnx' := Lib.hid hnx
                  clear hne hnx
                  go_wp2_with fail
                  go_roundg k
                  case measure => have := hgk'.out; omega
                  case rel => exact ⟨nx, ka, s3, k, rfl, rfl, rfl, hL6.out, hnx'.out⟩
end Go.Proofs.Ytjlehpgfhlkjlaa
