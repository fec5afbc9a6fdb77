/-
  check.Func and check.Right, of a function where nothing is wrong.
-/
import Derived.Test.YtjlehpgfhlkjlaaUses
import Derived.Test.YtjlehpgfhlkjlaaPUse
import Derived.Defers
import Derived.Recover
set_option linter.all false
namespace Jq
open Go Go.RowKit
theorem rowsOf_sl (f : Jq.Func Sl) : rowsOf f.p = f.blocks.l.map fun b => keptOf f.blocks.l.length b.term.to.l := by
  simp [rowsOf, Func.p, Block.p, Term.p, Function.comp_def]
def cntTo (bs : List (Block Sl)) (j : Nat) : Nat := ((bs.take j).map fun b => b.phis.l.length + b.ins.l.length).sum
theorem cntTo_succ (bs : List (Block Sl)) {j : Nat} (hj : j < bs.length) : cntTo bs (j + 1) = cntTo bs j + (bs[j].phis.l.length + bs[j].ins.l.length) := by
  unfold cntTo
  rw [List.take_succ_eq_append_getElem hj, List.map_append, List.sum_append]
  simp
theorem cntTo_le (bs : List (Block Sl)) : ∀ (d j : Nat), cntTo bs j ≤ cntTo bs (j + d)
  | 0, j => Nat.le_refl _
  | d + 1, j => by
    refine Nat.le_trans (cntTo_le bs d j) ?_
    by_cases h : j + d < bs.length
    · rw [show j + (d + 1) = (j + d) + 1 from rfl, cntTo_succ bs h]
      omega
    · unfold cntTo
      rw [List.take_of_length_le (by omega), List.take_of_length_le (by omega)]
      exact Nat.le_refl _
theorem cntTo_all (f : Jq.Func Sl) : sizeFn f.p = f.blocks.l.length + cntTo f.blocks.l f.blocks.l.length := by
  unfold sizeFn cntTo
  rw [List.take_length]
  simp [Func.p, Block.p, Function.comp_def]
end Jq
namespace Go.Proofs.Ytjlehpgfhlkjlaa
open Go.RowKit Jq
set_option linter.unusedVariables false
/-- The deferred closure, where nothing is recovered. -/
theorem ckIdle (p q r : Addr) (w : World) : CallsD Try.prog 127 #[.pointer (some p), .pointer (some q), .pointer (some r)] .returning w fun e u' w' => e = .returned (.tuple #[]) ∧ u' = .returning ∧ w' = w := by
  have hni : ∀ w : World, (binOp BinOp.eql 20 .nilIface .nilIface).run Try.prog w = .ok (.bool true) w := fun _ => by kernel_rfl
  refine callsD_of_wpS Try.func127 rfl fun c₀ cs hu => ?_
  apply wpS_seq
  apply wpS_region
  simp [wpOpsS, go_sem, recoverD, hu, Try.ntmps127, Exit.thenS]
  refine wpS_of_wp ?_
  simp only [Array.replicate_succ, Array.replicate_zero, List.push_toArray, List.append_toArray, List.nil_append, List.cons_append, List.setIfInBounds_toArray, List.set_cons_succ, List.set_cons_zero]
  go_wp2_with fail
  refine ⟨rfl, .returning, ?_, .tuple #[], results_none rfl _ _ _, rfl, rfl, rfl⟩
  cases c₀
  simp only at hu
  subst hu
  rfl
set_option maxRecDepth 100000 in
set_option maxHeartbeats 2000000 in
/-- 'check.Func'. -/
theorem ckFunc (f : Jq.Func Sl) (fuel : Nat) (w : World) (hf : kFunc.rd w f) (h : rightRows f.p (rowsOf f.p) fuel = true) (h8 : ∀ x, x ∈ f.blocks.l → x.term.to.l.length * 8 ≤ 140737488355328) :
    Calls Try.prog 113 #[.agg #[.int .i64 f.params, f.blocks.val]] w fun e w' => e = .returned (.tuple #[.int .i64 0, .int .i64 0, .int .i64 0]) ∧ Below w.heap.size w w' := by
  have hrows := rowsOf_sl f
  obtain ⟨rows, hr⟩ : ∃ rows, rows = rowsOf f.p := ⟨_, rfl⟩
  rw [← hr] at hrows h
  unfold rightRows at h
  simp only [Bool.and_eq_true, decide_eq_true_eq] at h
  obtain ⟨⟨⟨hpar, hn0, hn512, hn4096⟩, ⟨hrk, hob⟩, hpo, hedge⟩, hm⟩ := h
  split at hm
  · rename_i sites idom hsites hidom
    rw [Bool.and_eq_true] at hm
    obtain ⟨hall, huse⟩ := hm
    have hbn : f.p.blocks.length = f.blocks.l.length := by simp [Func.p]
    rw [hbn] at hn0 hn512
    rw [cntTo_all] at hn4096
    have hrl : rows.length = f.blocks.l.length := by rw [hrows]; simp
    have hkept : rows.map (keptOf rows.length) = rows := by
      rw [List.map_congr_left (g := id) fun row hrow => ?_, List.map_id]
      have := List.all_eq_true.1 hrk row hrow
      unfold rowOk at this
      rw [Bool.and_eq_true, decide_eq_true_eq] at this
      exact keptOf_sorted _ _ (fun x hx => by simpa using List.all_eq_true.1 this.1 x hx) this.2
    have hin : ∀ b, b ∈ orderOf rows → 0 ≤ b ∧ b < (rows.length : Int) := fun b hb => by
      have := List.all_eq_true.1 hob b hb
      simpa [isB] using this
    have hall2 : ∀ b, b < f.blocks.l.length → (orderOf rows).contains (b : Int) = true := fun b hb => List.all_eq_true.1 hall b (by rw [hbn]; exact List.mem_range.2 hb)
    have hsites' := Lib.hid hsites
    have hidom' := Lib.hid hidom
    have huse' := Lib.hid huse
    have hkept' := Lib.hid hkept
    have hin' := Lib.hid hin
    have hall' := Lib.hid hall2
    have hrows' := Lib.hid hrows
    have h8' := Lib.hid h8
    have hf' := Lib.hid (show kBlock.sl.rd w f.blocks from hf)
    have hpar2 := Lib.hid (show decide (0 ≤ f.params ∧ f.params ≤ 4) = true from decide_eq_true hpar)
    have hbd := Kd.bound hf'.out
    have hlI : (0 : Int) < (f.blocks.l.length : Int) := by omega
    have hlI2 : (f.blocks.l.length : Int) ≤ 512 := by omega
    have hlN : 0 < f.blocks.l.length := hn0
    have hmf : ∀ (fn : Fn) (first cap : Array Value) (w : World), (Instr.makeFunc fn first cap).run Try.prog w = .ok (.func fn first cap) w := fun _ _ _ _ => rfl
    have hmm := run_newMap (P := Try.prog) 165 .i64
    have hcn := Lib.hid hn4096
    have hpo' := Lib.hid hpo
    have hedge' := Lib.hid hedge
    clear hsites hidom huse hkept hin hall hall2 hrows h8 hf hrk hob hpar hn4096 hn0 hpo hedge
    go_enter_defers Try.func113, Try.ntmps113
    go_wp2_with fail
    refine (ckWithin f.params 0 4 _).mono ?_
    rw [hpar2.out]
    rintro e w1 ⟨rfl, rfl⟩
    go_wp2_with fail
    refine (ckMust 1 0 0 _).mono ?_
    rintro e w1 ⟨rfl, rfl⟩
    go_wp2_with fail
    obtain ⟨wF, hwF⟩ : ∃ wF, wF = (((w.alloc (.cells #[.int .i64 f.params, f.blocks.val] 75)).alloc (.cells #[.int .i64 0] 60)).alloc (.cells #[.int .i64 0] 3)).alloc (.cells #[.int .i64 0] 3) := ⟨_, rfl⟩
    have hBF : Below w.heap.size w wF := by rw [hwF]; exact bal (bal (bal (bal (Below.refl _ _) _) _) _) _
    have hsF : wF.heap.size = w.heap.size + 4 := by rw [hwF]; simp
    have hF0 : wF.heap[w.heap.size]? = some (.cells [.int .i64 f.params, f.blocks.val].toArray 75 (0, 0)) := by
      rw [hwF, Below.heap_alloc _ _ _ (by simp <;> omega), Below.heap_alloc _ _ _ (by simp <;> omega), Below.heap_alloc _ _ _ (by simp)]
      exact heap_alloc_new _ _
    have hF1 : wF.heap[w.heap.size + 1]? = some (.cells [.int .i64 0].toArray 60 (0, 0)) := by
      rw [hwF, Below.heap_alloc _ _ _ (by simp <;> omega), Below.heap_alloc _ _ _ (by simp)]
      exact ask_last _ _ _ (by simp)
    have hF2 : wF.heap[w.heap.size + 2]? = some (.cells [.int .i64 0].toArray 3 (0, 0)) := by
      rw [hwF, Below.heap_alloc _ _ _ (by simp)]
      exact ask_last _ _ _ (by simp)
    have hF3 : wF.heap[w.heap.size + 3]? = some (.cells [.int .i64 0].toArray 3 (0, 0)) := by
      rw [hwF]
      exact ask_last _ _ _ (by simp)
    rw [← hwF]
    clear hwF
    have hBF' := Lib.hid hBF
    have hsF' := Lib.hid hsF
    have hF0' := Lib.hid hF0
    have hF1' := Lib.hid hF1
    have hF2' := Lib.hid hF2
    have hF3' := Lib.hid hF3
    have c1 : wF.cell? ⟨w.heap.size, 1, none⟩ = some f.blocks.val := bx_cell hF0 rfl
    clear hBF hsF hF0 hF1 hF2 hF3
    refine (ckMust 14 0 0 _).mono ?_
    rintro e w1 ⟨rfl, rfl⟩
    go_wp2_with fail
    clear c1
    go_loopg [5, 25] (f.blocks.l.length) (fun g n q wr => ∃ (j : Nat), n = .int .i64 ((f.blocks.l.length : Int) + (cntTo f.blocks.l j : Int)) ∧ q = .int .i64 j ∧ j ≤ f.blocks.l.length ∧ g = f.blocks.l.length - j ∧ Below wF.heap.size wF wr)
    case atStart => exact ⟨0, by simp [cntTo], rfl, Nat.zero_le _, rfl, Below.refl _ _⟩
    case round =>
      obtain ⟨j, rfl, rfl, hj, hg, hB⟩ := hrel
      have hg' := Lib.hid hg
      have hB' := Lib.hid hB
      clear hg hB
      by_cases hlt : j < f.blocks.l.length
      · obtain ⟨bb, bo, hat, hbb, ⟨e0, e1, e2, e3, e4, e5⟩, hrb⟩ := getBlock 73 88 Try.underlying73 (by kernel_rfl) (kBlock.sl.below (kBlock.sl.below hf'.out hBF'.out) (hB'.out.mono (by have := hsF'.out; omega))) j hlt rfl
        have hbp := Kd.bound (d := kPhi) hrb.1
        have hbi := Kd.bound (d := kIns) hrb.2.1
        have hcs := cntTo_succ f.blocks.l hlt
        have hcl := cntTo_le f.blocks.l (f.blocks.l.length - (j + 1)) (j + 1)
        rw [show j + 1 + (f.blocks.l.length - (j + 1)) = f.blocks.l.length by omega] at hcl
        have hcn2 := hcn.out
        have hcs' := Lib.hid hcs
        have hbnd : (cntTo f.blocks.l j : Int) + ((f.blocks.l[j].phis.l.length : Int) + (f.blocks.l[j].ins.l.length : Int)) ≤ 4096 := by omega
        clear hrb hcs hcl hcn2
        go_wp2_with fail
        go_roundg (f.blocks.l.length - (j + 1))
        case measure => have := hg'.out; omega
        case rel => exact ⟨j + 1, by rw [hcs'.out]; go_num, by go_num, by omega, rfl, bthen hB'.out (bal (Below.refl _ _) _)⟩
      · have hjl : j = f.blocks.l.length := by omega
        subst hjl
        have hcn2 : (f.blocks.l.length : Int) + (cntTo f.blocks.l f.blocks.l.length : Int) ≤ 4096 := by have := hcn.out; omega
        have hX0 := Lib.hid ((hB'.out.block _ (lt_of_block hF0'.out)).trans hF0'.out)
        have hX1 := Lib.hid ((hB'.out.block _ (lt_of_block hF1'.out)).trans hF1'.out)
        have hX2 := Lib.hid ((hB'.out.block _ (lt_of_block hF2'.out)).trans hF2'.out)
        have hX3 := Lib.hid ((hB'.out.block _ (lt_of_block hF3'.out)).trans hF3'.out)
        have hBW := Lib.hid (bthen hBF'.out hB'.out)
        have hszW := Lib.hid (show w.heap.size + 4 ≤ wr.heap.size by have := hsF'.out; have := hB'.out.size; omega)
        have c0 : wr.cell? ⟨w.heap.size, 0, none⟩ = some (.int .i64 f.params) := bx_cell hX0.out rfl
        have c1 : wr.cell? ⟨w.heap.size, 1, none⟩ = some f.blocks.val := bx_cell hX0.out rfl
        have hwl : w.heap.size < wr.heap.size := by have := hszW.out; omega
        go_wp2_with fail
        refine (ckMust 2 0 0 _).mono ?_
        rintro e w1 ⟨rfl, rfl⟩
        go_wp2_with fail
        clear c0 c1
        obtain ⟨wK, hwK⟩ : ∃ wK, wK = (wr.alloc (mapObj .i64 [])).alloc (.cells #[.int .i64 f.params, f.blocks.val, .map (some wr.heap.size)] 167) := ⟨_, rfl⟩
        have hBK : Below wr.heap.size wr wK := by rw [hwK]; exact bal (bal (Below.refl _ _) _) _
        have hk0 : LK (wr.heap.size + 1) wr.heap.size f.params f.blocks 167 wK [] := by
          rw [hwK]
          refine ⟨ask_last _ _ _ (by simp), ?_⟩
          rw [Below.heap_alloc _ _ _ (by simp)]
          exact heap_alloc_new _ _
        rw [← hwK]
        clear hwK
        have hfK := kBlock.sl.below hf'.out (bthen hBW.out hBK)
        have hltf := kBlock.sl.lt hf'.out
        refine (ckShape (wr.heap.size + 1) wr.heap.size f.params f.blocks sites wK hk0 (fun W hW => kBlock.sl.mv hfK fun q hq => hW.block q (kBlock.sl.lt hfK q hq) (by have := hltf q hq; omega)) (by have h := hsites'.out; rw [hbn] at h; exact h)).mono ?_
        rintro e w2 ⟨rfl, hk2, hch⟩
        have hmv : ∀ q, q < wr.heap.size → w2.heap[q]? = wr.heap[q]? := fun q hq => (hch.block q (Nat.lt_of_lt_of_le hq hBK.size) (by omega)).trans (hBK.block q hq)
        have hf2 := Lib.hid (kBlock.sl.mv hfK fun q hq => hch.block q (kBlock.sl.lt hfK q hq) (by have := hltf q hq; omega))
        have hk2' := Lib.hid hk2
        have hY1 := Lib.hid ((hmv _ (lt_of_block hX1.out)).trans hX1.out)
        have hY2 := Lib.hid ((hmv _ (lt_of_block hX2.out)).trans hX2.out)
        have hY3 := Lib.hid ((hmv _ (lt_of_block hX3.out)).trans hX3.out)
        have hB2 := Lib.hid (show Below w.heap.size w w2 from by
          refine ⟨hch.os.trans (hBK.os.trans hBW.out.os), hch.tape.trans (hBK.tape.trans hBW.out.tape), hch.output.trans (hBK.output.trans hBW.out.output), Nat.le_trans hBW.out.size (Nat.le_trans hBK.size hch.size), fun q hq => (hmv q (by omega)).trans (hBW.out.block q hq)⟩)
        clear hfK hltf hmv hch hBK hk0 hk2
        go_wp2_with fail
        refine (ckUses (wr.heap.size + 1) wr.heap.size f.params f.blocks sites rows fuel idom w2 hk2'.out hf2.out hn512 h8'.out hrows'.out hkept'.out (by have := hedge'.out; omega) hin'.out hpo'.out hall'.out hidom'.out huse'.out).mono ?_
        rintro e w3 ⟨rfl, hb3⟩
        have hZ1 := bx_go hY1.out hb3
        have hZ2 := bx_go hY2.out hb3
        have hZ3 := bx_go hY3.out hb3
        have hB3 := Lib.hid (bthen hB2.out hb3)
        have z1 : w3.cell? ⟨w.heap.size + 1, 0, none⟩ = some (.int .i64 0) := bx_cell hZ1 rfl
        have z2 : w3.cell? ⟨w.heap.size + 1 + 1, 0, none⟩ = some (.int .i64 0) := bx_cell hZ2 rfl
        have z3 : w3.cell? ⟨w.heap.size + 1 + 1 + 1, 0, none⟩ = some (.int .i64 0) := bx_cell hZ3 rfl
        have y1 : w3.frozen? ⟨w.heap.size + 1, 0, none⟩ = false := by simp [World.frozen?, hZ1]
        have y2 : w3.frozen? ⟨w.heap.size + 1 + 1, 0, none⟩ = false := by simp [World.frozen?, show w3.heap[w.heap.size + 1 + 1]? = _ from hZ2]
        have y3 : w3.frozen? ⟨w.heap.size + 1 + 1 + 1, 0, none⟩ = false := by simp [World.frozen?, show w3.heap[w.heap.size + 1 + 1 + 1]? = _ from hZ3]
        have hZ1' := Lib.hid hZ1
        have hZ2' := Lib.hid (show w3.heap[w.heap.size + 1 + 1]? = some (.cells [.int .i64 0].toArray 3 (0, 0)) from hZ2)
        have hZ3' := Lib.hid (show w3.heap[w.heap.size + 1 + 1 + 1]? = some (.cells [.int .i64 0].toArray 3 (0, 0)) from hZ3)
        clear hb3 hZ1 hZ2 hZ3
        go_wp2_with fail
        have hA1 := heap_set_self (o := 0) (v := .int .i64 0) hZ1'.out
        have hA2 : (w3.setCell ⟨w.heap.size + 1, 0, none⟩ (.int .i64 0)).heap[w.heap.size + 1 + 1]? = _ := (Below.heap_setCell _ _ _ _ (by simp)).trans hZ2'.out
        have hA3 : (w3.setCell ⟨w.heap.size + 1, 0, none⟩ (.int .i64 0)).heap[w.heap.size + 1 + 1 + 1]? = _ := (Below.heap_setCell _ _ _ _ (by simp <;> omega)).trans hZ3'.out
        have hC2 := heap_set_self (o := 0) (v := .int .i64 0) hA2
        have hC1 : ((w3.setCell ⟨w.heap.size + 1, 0, none⟩ (.int .i64 0)).setCell ⟨w.heap.size + 1 + 1, 0, none⟩ (.int .i64 0)).heap[w.heap.size + 1]? = _ := (Below.heap_setCell _ _ _ _ (by simp)).trans hA1
        have hC3 : ((w3.setCell ⟨w.heap.size + 1, 0, none⟩ (.int .i64 0)).setCell ⟨w.heap.size + 1 + 1, 0, none⟩ (.int .i64 0)).heap[w.heap.size + 1 + 1 + 1]? = _ := (Below.heap_setCell _ _ _ _ (by simp)).trans hA3
        have hD3 := heap_set_self (o := 0) (v := .int .i64 0) hC3
        have hD1 : (((w3.setCell ⟨w.heap.size + 1, 0, none⟩ (.int .i64 0)).setCell ⟨w.heap.size + 1 + 1, 0, none⟩ (.int .i64 0)).setCell ⟨w.heap.size + 1 + 1 + 1, 0, none⟩ (.int .i64 0)).heap[w.heap.size + 1]? = _ := (Below.heap_setCell _ _ _ _ (by simp <;> omega)).trans hC1
        have hD2 : (((w3.setCell ⟨w.heap.size + 1, 0, none⟩ (.int .i64 0)).setCell ⟨w.heap.size + 1 + 1, 0, none⟩ (.int .i64 0)).setCell ⟨w.heap.size + 1 + 1 + 1, 0, none⟩ (.int .i64 0)).heap[w.heap.size + 1 + 1]? = _ := (Below.heap_setCell _ _ _ _ (by simp)).trans hC2
        have hBZ : Below w.heap.size w (((w3.setCell ⟨w.heap.size + 1, 0, none⟩ (.int .i64 0)).setCell ⟨w.heap.size + 1 + 1, 0, none⟩ (.int .i64 0)).setCell ⟨w.heap.size + 1 + 1 + 1, 0, none⟩ (.int .i64 0)) := bset (bset (bset hB3.out _ _ (by show _ ≤ w.heap.size + 1; omega)) _ _ (by show _ ≤ w.heap.size + 1 + 1; omega)) _ _ (by show _ ≤ w.heap.size + 1 + 1 + 1; omega)
        obtain ⟨wZ, hwZ⟩ : ∃ wZ, wZ = (((w3.setCell ⟨w.heap.size + 1, 0, none⟩ (.int .i64 0)).setCell ⟨w.heap.size + 1 + 1, 0, none⟩ (.int .i64 0)).setCell ⟨w.heap.size + 1 + 1 + 1, 0, none⟩ (.int .i64 0)) := ⟨_, rfl⟩
        rw [← hwZ] at hD1 hD2 hD3 hBZ
        rw [← hwZ]
        have x1 : wZ.cell? ⟨w.heap.size + 1, 0, none⟩ = some (.int .i64 0) := bx_cell hD1 rfl
        have x2 : wZ.cell? ⟨w.heap.size + 1 + 1, 0, none⟩ = some (.int .i64 0) := bx_cell hD2 rfl
        have x3 : wZ.cell? ⟨w.heap.size + 1 + 1 + 1, 0, none⟩ = some (.int .i64 0) := bx_cell hD3 rfl
        clear hA1 hA2 hA3 hC1 hC2 hC3 hD1 hD2 hD3 hwZ
        refine leaves_cons (f := 127) (args := #[.pointer (some ⟨w.heap.size + 1, 0, none⟩), .pointer (some ⟨w.heap.size + 1 + 1, 0, none⟩), .pointer (some ⟨w.heap.size + 1 + 1 + 1, 0, none⟩)]) (by simp) (by simp [go_sem]) ?_
        refine (ckIdle ⟨w.heap.size + 1, 0, none⟩ ⟨w.heap.size + 1 + 1, 0, none⟩ ⟨w.heap.size + 1 + 1 + 1, 0, none⟩ _).mono ?_
        rintro e u' w'' ⟨rfl, rfl, rfl⟩
        simp [Leaves, settle, results, Try.results113, go_sem, x1, x2, x3]
        exact hBZ
  · exact absurd hm (by simp)
set_option maxHeartbeats 1000000 in
/-- 'check.Right'. -/
theorem ckRight (f : Jq.Func Sl) (fuel : Nat) (w : World) (hf : kFunc.rd w f) (h : rightRows f.p (rowsOf f.p) fuel = true) (h8 : ∀ x, x ∈ f.blocks.l → x.term.to.l.length * 8 ≤ 140737488355328) :
    Calls Try.prog 76 #[.agg #[.int .i64 f.params, f.blocks.val]] w fun e w' => e = .returned (.bool true) ∧ Below w.heap.size w w' := by
  have hB : Below w.heap.size w (w.alloc (.cells #[.int .i64 f.params, f.blocks.val] 75)) := bal (Below.refl _ _) _
  have hc := Lib.hid (ckFunc f fuel (w.alloc (.cells #[.int .i64 f.params, f.blocks.val] 75)) (kFunc.below hf hB) h h8)
  have hB' := Lib.hid hB
  clear hf h h8 hB
  go_enter Try.func76, Try.ntmps76
  go_wp2_with fail
  refine hc.out.mono ?_
  rintro e w1 ⟨rfl, hb⟩
  have hb' := Lib.hid (bthen hB'.out hb)
  clear hb
  go_wp2_with fail
  go_ret
  exact ⟨rfl, hb'.out⟩
end Go.Proofs.Ytjlehpgfhlkjlaa
