/-
  The walk of the law MachWords.
-/
import Derived.Test.YtjlehpgfhlkjlaaL7
import Derived.Test.YtjlehpgfhlkjlaaOpen
set_option linter.all false
namespace Jq
open Go Go.RowKit
theorem own_cell {T : TypeId} {B g cap : Nat} {W : World} {l : List Int} (h : Own kW T B W ⟨some ⟨g, 0, none⟩, cap, l⟩) (k : Nat) (hk : k < l.length) : W.cell? ⟨g, k, none⟩ = some (.int .i32 l[k]) := by
  obtain ⟨b, o, hA, _, hc⟩ := h.rd.2.2.1 (by show 0 < l.length; omega)
  simp only [Option.some.injEq, Addr.mk.injEq] at hA
  obtain ⟨rfl, rfl, _⟩ := hA
  have := hc k hk 0 (by decide)
  simpa [kW, Kd.scalar] using this
theorem below_chg {F : Nat → Prop} {B : Nat} {w W W' : World} (h : Below B w W) (hc : Chg F W W') (hF : ∀ k, F k → B ≤ k) (hB : B ≤ W.heap.size) : Below B w W' :=
  ⟨hc.os.trans h.os, hc.tape.trans h.tape, hc.output.trans h.output, Nat.le_trans h.size hc.size, fun k hk => (hc.block k (by omega) fun f => by have := hF k f; omega).trans (h.block k hk)⟩
theorem plain_at (W : World) (g : Nat) (j : Int) {T : TypeId} (h : W.heap[g]? = some (.cells #[.int .i64 2, .int .i64 5, .int .i64 8, .int .i64 9, .int .i64 10] T (0, 0))) (h0 : 0 ≤ j) (h1 : j < 5) : W.cell? ⟨g, j.toNat, none⟩ = some (.int .i64 (immOp (18 + j))) := by
  rcases (by omega : j = 0 ∨ j = 1 ∨ j = 2 ∨ j = 3 ∨ j = 4) with rfl | rfl | rfl | rfl | rfl <;> simp [World.cell?, h, immOp]
/-! ### What the instructions of the law come to -/
theorem words_some (op a b c n : Int) (h1 : 5 ≤ op) (h2 : op ≤ 17) (hn : wdo (op - 5 + 2) a b = some n) : mdo ⟨op, 3, 0, 0, 1, 0, 0, []⟩ [a, b, c, 7] [] = ((0, true), [a, b, c, n], []) := by
  rw [mdo_arm (v := n) (ok := true) (m := []) (tt := -1) ⟨by show op ≠ 2; omega, by show op ≠ 29; omega, by show ¬ (op < 1 ∨ op = 28 ∨ 29 < op); omega⟩ ?_ (by show (-1 : Int) = if 5 ≤ op ∧ op ≤ 17 then -1 else 0; rw [if_pos ⟨h1, h2⟩])]
  · rw [if_pos rfl]
    have hm : makes ⟨op, 3, 0, 0, 1, 0, 0, []⟩ = [3] := by
      show makesOf op 3 0 0 1 = [3]
      unfold makesOf
      rw [if_neg (by omega), if_neg (by omega), if_neg (by omega)]
    rw [hm]
    rfl
  · show mval op a b a 0 [] = (n, true, [])
    unfold mval
    rw [if_neg (by omega), if_neg (by omega), if_pos ⟨h1, h2⟩, hn]
    rfl
theorem words_none (op a b c : Int) (h1 : 5 ≤ op) (h2 : op ≤ 17) (hn : wdo (op - 5 + 2) a b = none) : mdo ⟨op, 3, 0, 0, 1, 0, 0, []⟩ [a, b, c, 7] [] = ((-1, false), [a, b, c, 7], []) := by
  rw [mdo_arm (v := 0) (ok := false) (m := []) (tt := -1) ⟨by show op ≠ 2; omega, by show op ≠ 29; omega, by show ¬ (op < 1 ∨ op = 28 ∨ 29 < op); omega⟩ ?_ (by show (-1 : Int) = if 5 ≤ op ∧ op ≤ 17 then -1 else 0; rw [if_pos ⟨h1, h2⟩])]
  · rw [if_neg (by simp), if_neg (by decide)]
  · show mval op a b a 0 [] = (0, false, [])
    unfold mval
    rw [if_neg (by omega), if_neg (by omega), if_pos ⟨h1, h2⟩, hn]
    rfl
theorem words_imm (op a b : Int) (h1 : 18 ≤ op) (h2 : op ≤ 22) : mdo ⟨op, 1, 0, 0, 0, 0, b, []⟩ [a, 7] [] = ((0, true), [a, (wdo (immOp op) a b).getD 0], []) := by
  rw [mdo_arm (v := (wdo (immOp op) a b).getD 0) (ok := true) (m := []) (tt := 0) ⟨by show op ≠ 2; omega, by show op ≠ 29; omega, by show ¬ (op < 1 ∨ op = 28 ∨ 29 < op); omega⟩ ?_ (by show (0 : Int) = if 5 ≤ op ∧ op ≤ 17 then -1 else 0; rw [if_neg (by omega)])]
  · rw [if_pos rfl]
    have hm : makes ⟨op, 1, 0, 0, 0, 0, b, []⟩ = [1] := by
      show makesOf op 1 0 0 0 = [1]
      unfold makesOf
      rw [if_neg (by omega), if_neg (by omega), if_neg (by omega)]
    rw [hm]
    rfl
  · show mval op a a a b [] = _
    unfold mval
    rw [if_neg (by omega), if_neg (by omega), if_neg (by omega), if_pos ⟨h1, h2⟩]
theorem words_madd (a b c : Int) : mdo ⟨23, 3, 0, 0, 1, 2, 0, []⟩ [a, b, c, 7, 8] [] = ((0, true), [a, b, c, wrap32 (wrap32 (a * b) + c), 8], []) := rfl
theorem words_wide (a b c x : Int) : mdo ⟨29, 3, 4, 0, 1, 0, 0, []⟩ [a, b, c, x, 8] [] = ((0, true), [a, b, c, wlo a b, whi a b], []) := rfl
end Jq
namespace Go.Proofs.Ytjlehpgfhlkjlaa
open Go.RowKit Jq Go.Deep
set_option linter.unusedVariables false
/-- An instruction done with registers of one's own, and no memory. -/
theorem l7do (i : Mach Sl) (R : Sl Int) (B : Nat) (w W : World) (hB : Below B w W) (hBW : B ≤ W.heap.size) (hR : Own kW 21 B W R) (t : Int) (ok : Bool) (l : List Int) (hm : mdo i.p R.l [] = ((t, ok), l, [])) :
    Calls Try.prog 26 #[i.v, R.val, .slice none 0 0] W fun e w' => e = .returned (.tuple #[.int .i32 t, .bool ok]) ∧ Own kW 21 B w' (R.wl l) ∧ Below B w w' := by
  have h := machDo i R nilSl B W hR (Own.nil _ _ _ _) (by
    cases hr : R.val.ownBlock with
    | none => exact Or.inl rfl
    | some k => exact Or.inr (by simp [Value.ownBlock]))
  have hl : (nilSl : Sl Int).l = [] := rfl
  rw [hl, hm] at h
  refine h.mono fun e w' ⟨h1, h2, _, h3⟩ => ⟨h1, h2, below_chg hB h3 (fun k hk => ?_) hBW⟩
  rcases hk with hk | hk
  · exact hR.ge k hk
  · simp [Value.ownBlock] at hk
set_option maxRecDepth 1000000 in
set_option maxHeartbeats 800000 in
theorem walkMachWords (w : World) (a : Int) (oa : (Lit.int .i32 a).wf = true) (b : Int) (ob : (Lit.int .i32 b).wf = true) (c : Int) (oc : (Lit.int .i32 c).wf = true) :
    Calls Try.prog 5 #[.int .i32 a, .int .i32 b, .int .i32 c] w fun e w' => e = .returned (.bool true) ∧ Below w.heap.size w w' := by
  clear oa ob oc
  go_enter Try.func5, Try.ntmps5
  go_wp2_with fail
  refine (l7shown _).mono ?_
  rintro e w1 ⟨rfl, hb⟩
  have HB0 := Lib.hid hb
  clear hb
  go_wp2_with fail
  go_loopw [8] (fun o wr => ∃ op : Int, o = .int .i64 op ∧ 5 ≤ op ∧ op ≤ 18 ∧ Below w.heap.size w wr) (fun o _ => (18 - intOf o).toNat)
  case atStart => exact ⟨5, rfl, by omega, by omega, HB0.out⟩
  case round =>
    obtain ⟨op, rfl, h1, h2, hB⟩ := hrel
    have hB' := Lib.hid hB
    have hBs := hB.size
    clear hB HB0
    by_cases h3 : op ≤ 17
    · have hR := Lib.hid (own_lit (.int .i32) 21 w.heap.size wr [a, b, c, 7] hBs (by simp))
      cases hn : wdo (op - 5 + 2) a b with
      | some n =>
        have hn' := Lib.hid hn
        clear hn
        go_wp2_with fail
        refine (l7do ⟨op, 3, 0, 0, 1, 0, 0, nilSl⟩ ⟨some ⟨wr.heap.size, 0, none⟩, 4, [a, b, c, 7]⟩ w.heap.size w _ (bal hB'.out _) (by simp; omega) hR.out 0 true [a, b, c, n] (words_some op a b c n h1 h3 hn'.out)).mono ?_
        rintro e w2 ⟨rfl, ho, hb⟩
        have hlt : wr.heap.size < w2.heap.size := ho.lt _ (Or.inl rfl)
        have c3 := own_cell (g := wr.heap.size) ho 3 (by simp)
        have hb2 := Lib.hid hb
        have hbs2 := hb.size
        clear hb ho
        go_wp2_with fail
        refine (wordDo (op - 5 + 2) a b _).mono ?_
        rw [hn'.out]
        rintro e w3 ⟨rfl, hb3⟩
        have c3' : w3.cell? ⟨wr.heap.size, 3, none⟩ = some (.int .i32 n) := (hb3.cell (p := ⟨wr.heap.size, 3, none⟩) hlt).trans c3
        have hb3' := Lib.hid (bthen hb2.out hb3)
        clear hb3 c3
        go_wp2_with fail
        go_roundw
        case rel => exact ⟨op + 1, rfl, by omega, by omega, hb3'.out⟩
        case measure => simp [intOf]; omega
      | none =>
        have hn' := Lib.hid hn
        clear hn
        go_wp2_with fail
        refine (l7do ⟨op, 3, 0, 0, 1, 0, 0, nilSl⟩ ⟨some ⟨wr.heap.size, 0, none⟩, 4, [a, b, c, 7]⟩ w.heap.size w _ (bal hB'.out _) (by simp; omega) hR.out (-1) false [a, b, c, 7] (words_none op a b c h1 h3 hn'.out)).mono ?_
        rintro e w2 ⟨rfl, ho, hb⟩
        have hlt : wr.heap.size < w2.heap.size := ho.lt _ (Or.inl rfl)
        have c3 := own_cell (g := wr.heap.size) ho 3 (by simp)
        have hb2 := Lib.hid hb
        have hbs2 := hb.size
        clear hb ho
        go_wp2_with fail
        refine (wordDo (op - 5 + 2) a b _).mono ?_
        rw [hn'.out]
        rintro e w3 ⟨rfl, hb3⟩
        have c3' : w3.cell? ⟨wr.heap.size, 3, none⟩ = some (.int .i32 7) := (hb3.cell (p := ⟨wr.heap.size, 3, none⟩) hlt).trans c3
        have hb3' := Lib.hid (bthen hb2.out hb3)
        clear hb3 c3
        go_wp2_with fail
        go_roundw
        case rel => exact ⟨op + 1, rfl, by omega, by omega, hb3'.out⟩
        case measure => simp [intOf]; omega
    · go_wp2_with fail
      obtain ⟨wo, rfl⟩ : ∃ wo : World, wo = wr := ⟨_, rfl⟩
      go_loopw [15] (fun k wr => ∃ j : Int, k = .int .i64 j ∧ 0 ≤ j ∧ j ≤ 5 ∧ Below w.heap.size w wr ∧ wr.heap[wo.heap.size]? = some (.cells #[.int .i64 2, .int .i64 5, .int .i64 8, .int .i64 9, .int .i64 10] 50 (0, 0))) (fun k _ => (5 - intOf k).toNat)
      case atStart => exact ⟨0, rfl, by omega, by omega, bal hB'.out _, heap_alloc_new wo _⟩
      case round =>
        obtain ⟨j, rfl, j1, j2, hB, hp⟩ := hrel
        have hB3 := Lib.hid hB
        have hp3 := Lib.hid hp
        have hBs3 := hB.size
        clear hB hp
        by_cases h4 : j < 5
        · have hR := Lib.hid (own_lit (.int .i32) 21 wr.heap.size wr [a, 7] (Nat.le_refl _) (by simp))
          have hlo := lt_of_block hp3.out
          obtain ⟨v, hv⟩ : ∃ v, (wdo (immOp (18 + j)) a b).getD 0 = v := ⟨_, rfl⟩
          have hv' := Lib.hid hv
          clear hv
          obtain ⟨pj, hpj⟩ : ∃ pj, immOp (18 + j) = pj := ⟨_, rfl⟩
          have hpc := plain_at wr wo.heap.size j hp3.out j1 h4
          rw [hpj] at hpc
          have hpj' := Lib.hid hpj
          clear hpj
          go_wp2_with fail
          refine (l7do ⟨18 + j, 1, 0, 0, 0, 0, b, nilSl⟩ ⟨some ⟨wr.heap.size, 0, none⟩, 2, [a, 7]⟩ wr.heap.size wr _ (bal (Below.refl _ _) _) (by simp) hR.out 0 true [a, v] (by rw [← hv'.out]; exact words_imm (18 + j) a b (by omega) (by omega))).mono ?_
          rintro e w2 ⟨rfl, ho, hb⟩
          have hlt : wr.heap.size < w2.heap.size := ho.lt _ (Or.inl rfl)
          have c3 := own_cell (g := wr.heap.size) ho 1 (by simp)
          have hpc2 := (hb.cell (p := ⟨wo.heap.size, j.toNat, none⟩) hlo).trans hpc
          have hb2 := Lib.hid hb
          have hbs2 := hb.size
          clear hb ho hpc
          go_wp2_with fail
          refine (wordDo pj a b _).mono ?_
          rintro e w3 ⟨rfl, hb3⟩
          have hx : (wdo pj a b).getD 0 = v := by rw [← hv'.out, ← hpj'.out]
          rw [hx]
          have c3' : w3.cell? ⟨wr.heap.size, 1, none⟩ = some (.int .i32 v) := (hb3.cell (p := ⟨wr.heap.size, 1, none⟩) hlt).trans c3
          have hb3' := Lib.hid (bthen hb2.out hb3)
          obtain ⟨bk, hbk⟩ : ∃ bk, (wdo pj a b).isSome = bk := ⟨_, rfl⟩
          rw [hbk]
          clear hb3 c3 hx hbk
          go_wp2_with fail
          go_roundw
          case rel => exact ⟨j + 1, rfl, by omega, by omega, bthen hB3.out hb3'.out, (hb3'.out.block _ hlo).trans hp3.out⟩
          case measure => simp [intOf]; omega
        · have hR := Lib.hid (own_lit (.int .i32) 21 w.heap.size wr [a, b, c, 7, 8] hBs3 (by simp))
          go_wp2_with fail
          refine (l7do ⟨23, 3, 0, 0, 1, 2, 0, nilSl⟩ ⟨some ⟨wr.heap.size, 0, none⟩, 5, [a, b, c, 7, 8]⟩ w.heap.size w _ (bal hB3.out _) (by simp; omega) hR.out 0 true _ (words_madd a b c)).mono ?_
          rintro e w2 ⟨rfl, ho, hb⟩
          have c3 := own_cell (g := wr.heap.size) ho 3 (by simp)
          have ho2 := Lib.hid ho
          have hb2 := Lib.hid hb
          have hbs2 := hb.size
          clear hb ho
          go_wp2_with fail
          refine (l7do ⟨29, 3, 4, 0, 1, 0, 0, nilSl⟩ ⟨some ⟨wr.heap.size, 0, none⟩, 5, [a, b, c, wrap32 (wrap32 (a * b) + c), 8]⟩ w.heap.size w _ hb2.out hbs2 ho2.out 0 true _ (words_wide a b c _)).mono ?_
          rintro e w3 ⟨rfl, ho, hb⟩
          have e3 := own_cell (g := wr.heap.size) ho 3 (by simp)
          have e4 := own_cell (g := wr.heap.size) ho 4 (by simp)
          have hb3 := Lib.hid hb
          clear hb ho c3
          go_wp2_with fail
          refine (wordWide a b _).mono ?_
          rintro e w4 ⟨rfl, rfl⟩
          obtain ⟨x1, hx1⟩ : ∃ x1, wlo a b = x1 := ⟨_, rfl⟩
          obtain ⟨x2, hx2⟩ : ∃ x2, whi a b = x2 := ⟨_, rfl⟩
          have e3' : w3.cell? ⟨wr.heap.size, 3, none⟩ = some (.int .i32 x1) := by rw [← hx1]; exact e3
          have e4' : w3.cell? ⟨wr.heap.size, 4, none⟩ = some (.int .i32 x2) := by rw [← hx2]; exact e4
          rw [hx1, hx2]
          clear hx1 hx2 e3 e4
          go_wp2_with fail
          go_ret
          exact ⟨rfl, hb3.out⟩
end Go.Proofs.Ytjlehpgfhlkjlaa
