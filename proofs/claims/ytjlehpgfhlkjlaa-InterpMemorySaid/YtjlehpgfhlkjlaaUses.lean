/-
  check.looker.uses, of a function where nothing is wrong.
-/
import Derived.Test.YtjlehpgfhlkjlaaIdom
import Derived.Test.YtjlehpgfhlkjlaaPUse
import Derived.Test.YtjlehpgfhlkjlaaSl3
import Derived.Lib.QuietBelow
set_option linter.all false
namespace Jq
open Go Go.RowKit Go.Sort
/-- What stands fast while the operands are looked at. -/
structure US (kb mb gk gi TL TP TI : Nat) (params : Int) (blocks : Sl (Block Sl)) (sites : List Site) (D : Sl Int) (R : Sl (Sl Int)) (w0 wr : World) : Prop where
  lk : LK kb mb params blocks TL wr sites
  ck : wr.heap[gk]? = some (.cells #[.pointer (some ⟨kb, 0, none⟩)] TP (0, 0))
  ci : wr.heap[gi]? = some (.cells #[D.val] TI (0, 0))
  id : kI.sl.rd wr D
  pr : kI.sl.sl.rd wr R
  bl : kBlock.sl.rd wr blocks
  below : Below w0.heap.size w0 wr
theorem US.go {kb mb gk gi TL TP TI : Nat} {params : Int} {blocks : Sl (Block Sl)} {sites : List Site} {D : Sl Int} {R : Sl (Sl Int)} {w0 wr W : World} (h : US kb mb gk gi TL TP TI params blocks sites D R w0 wr) (hb : Below wr.heap.size wr W) : US kb mb gk gi TL TP TI params blocks sites D R w0 W :=
  ⟨h.lk.chg hb, (hb.block _ (lt_of_block h.ck)).trans h.ck, (hb.block _ (lt_of_block h.ci)).trans h.ci, kI.sl.below h.id hb, kI.sl.sl.below h.pr hb, kBlock.sl.below h.bl hb, bthen h.below hb⟩
theorem bx_go {wr W : World} {g : Nat} {o : Obj} (h : wr.heap[g]? = some o) (hb : Below wr.heap.size wr W) : W.heap[g]? = some o := (hb.block _ (lt_of_block h)).trans h
theorem bx_cell {wr : World} {g j : Nat} {cs : List Value} {T : TypeId} {v : Value} (h : wr.heap[g]? = some (.cells cs.toArray T (0, 0))) (hv : cs[j]? = some v) : wr.cell? ⟨g, j, none⟩ = some v := by
  simp only [World.cell?, h]
  simpa using hv
end Jq
namespace Go.Proofs.Ytjlehpgfhlkjlaa
open Go.RowKit Jq Go.Sort
set_option linter.unusedVariables false
/-- 'use', as a step of a region that draws. -/
theorem ckUseQ (kb mb gk gi : Nat) (params v block place at_ told : Int) (blocks : Sl (Block Sl)) (sites : List Site) (D : Sl Int) (R : Sl (Sl Int)) (w0 w : World) (hU : US kb mb gk gi 167 164 38 params blocks sites D R w0 w) (h : useOk params sites D.l v block at_ = true) (W : World) (hW : Below w.heap.size w W) :
    Calls Try.prog 146 #[.int .i64 v, .int .i64 block, .int .i64 place, .int .i64 at_, .int .i64 told, .pointer (some ⟨gk, 0, none⟩), .pointer (some ⟨gi, 0, none⟩)] W fun e w' => e = .returned (.tuple #[]) ∧ Below W.heap.size W w' := by
  have hU2 := hU.go hW
  exact ckUse kb mb gk gi params v block place at_ told blocks sites D W hU2.lk (by simp [World.cell?, hU2.ck]) (by simp [World.cell?, hU2.ci]) hU2.id h
set_option maxRecDepth 100000 in
set_option maxHeartbeats 2000000 in
/-- 'looker.uses'. -/
theorem ckUses (kb mb : Nat) (params : Int) (blocks : Sl (Block Sl)) (sites : List Site) (rows : List (List Int)) (F : Nat) (idom : List Int) (w : World) (hk : LK kb mb params blocks 167 w sites) (hb : kBlock.sl.rd w blocks) (h512 : blocks.l.length ≤ 512)
    (h8 : ∀ x, x ∈ blocks.l → x.term.to.l.length * 8 ≤ 140737488355328) (hrows : rows = blocks.l.map fun b => keptOf blocks.l.length b.term.to.l) (hkept : rows.map (keptOf rows.length) = rows) (hE : (edgesOf 0 rows).length * 8 ≤ 140737488355320)
    (hin : ∀ b, b ∈ orderOf rows → 0 ≤ b ∧ b < (rows.length : Int)) (hpo : 1 ≤ (orderOf rows).length) (hall : ∀ b, b < blocks.l.length → (orderOf rows).contains (b : Int) = true) (hid : idomOf rows F = some idom)
    (hu : blocksUse params sites idom (blocks.l.map Block.p) (prsOf rows) 0 (blocks.l.map Block.p) = true) :
    Calls Try.prog 131 #[.pointer (some ⟨kb, 0, none⟩)] w fun e w' => e = .returned (.tuple #[]) ∧ Below w.heap.size w w' := by
  have hrl : rows.length = blocks.l.length := by rw [hrows]; simp
  have hbd := Kd.bound hb
  have k0 : w.cell? ⟨kb, 0, none⟩ = some (.int .i64 params) := by simp [World.cell?, hk.k]
  have k1 : w.cell? ⟨kb, 1, none⟩ = some blocks.val := by simp [World.cell?, hk.k]
  have hkl : kb < w.heap.size := lt_of_block hk.k
  have hrk := Lib.hid (show ∀ x, x ∈ rows → x.length * 8 ≤ 140737488355328 from fun x hx => by
    rw [hrows] at hx
    obtain ⟨b, hb, rfl⟩ := List.mem_map.1 hx
    have := keptOf_len blocks.l.length b.term.to.l
    have := h8 b hb
    omega)
  have hk' := Lib.hid hk
  have hb' := Lib.hid hb
  have h8' := Lib.hid h8
  have hrows' := Lib.hid hrows
  have hkept' := Lib.hid hkept
  have hin' := Lib.hid hin
  have hall' := Lib.hid hall
  have hid' := Lib.hid hid
  have hu' := Lib.hid hu
  have hpo' := Lib.hid hpo
  have hrl' := Lib.hid hrl
  clear hk hb h8 hrows hkept hin hall hid hu hpo hrl
  go_enter Try.func131, Try.ntmps131
  go_wp2_with fail
  obtain ⟨wa, hwa⟩ : ∃ wa, wa = w.alloc (.cells #[.pointer (some ⟨kb, 0, none⟩)] 164) := ⟨_, rfl⟩
  have hba : Below w.heap.size w wa := by rw [hwa]; exact bal (Below.refl _ _) _
  have hca : wa.heap[w.heap.size]? = some (.cells #[.pointer (some ⟨kb, 0, none⟩)] 164 (0, 0)) := by rw [hwa]; exact heap_alloc_new _ _
  rw [← hwa]
  clear hwa
  refine (grOf ⟨params, blocks⟩ wa (kBlock.sl.below hb'.out hba) h512 h8'.out).mono ?_
  rintro e w1 ⟨G, rfl, hGl, hGo, hGb⟩
  replace hGl : G.l.map Sl.l = rows := hGl.trans hrows'.out.symm
  have hGn : G.l.length = blocks.l.length := by
    have h := congrArg List.length hGl
    rw [List.length_map] at h
    rw [h]; exact hrl'.out
  have hGk : (G.l.map Sl.l).map (keptOf G.l.length) = rows := by
    rw [hGl, hGn, ← hrl'.out]; exact hkept'.out
  have hG8 := Lib.hid (show ∀ x, x ∈ G.l → x.l.length * 8 ≤ 140737488355328 from fun x hx => hrk.out x.l (by rw [← hGl]; exact List.mem_map_of_mem hx))
  have hGk' := Lib.hid hGk
  have hGo' := Lib.hid hGo
  have hb1 := Lib.hid (bthen hba hGb)
  have hca' := Lib.hid ((hGb.block _ (lt_of_block hca)).trans hca)
  clear hGl hGk hGo hGb hba hca
  go_wp2_with fail
  refine (grOrder G w1 hGo'.out.outer.rd (by omega) hG8.out).mono ?_
  rw [hGk'.out]
  rintro e w2 ⟨O, rfl, hOl, hOo, hOb⟩
  have hb2 := Lib.hid (bthen hb1.out hOb)
  have hca2 := Lib.hid ((hOb.block _ (lt_of_block hca'.out)).trans hca'.out)
  have hOl' := Lib.hid hOl
  have hOr := Lib.hid (show kI.sl.rd w2 O from hOo.rd)
  have hGr := Lib.hid (kI.sl.sl.below hGo'.out.outer.rd hOb)
  clear hOl hOo hOb
  have c1 : w2.cell? ⟨w.heap.size, 0, none⟩ = some (.pointer (some ⟨kb, 0, none⟩)) := by simp [World.cell?, hca2.out]
  have c2 : w2.cell? ⟨kb, 1, none⟩ = some blocks.val := by rw [hb2.out.cell (p := ⟨kb, 1, none⟩) hkl]; exact k1
  go_wp2_with fail
  clear k0 k1 c1 c2
  go_loopg [36] (blocks.l.length) (fun g q wr => ∃ (j : Nat), q = .int .i64 j ∧ j ≤ blocks.l.length ∧ g = blocks.l.length - j ∧ wr = w2)
  case atStart => exact ⟨0, rfl, Nat.zero_le _, rfl, rfl⟩
  case round =>
    obtain ⟨j, rfl, hj, hg, rfl⟩ := hrel
    have hg' := Lib.hid hg
    clear hg
    by_cases hlt : j < blocks.l.length
    · go_wp2_with fail
      refine (containsInt O j wr hOr.out).mono ?_
      rw [show O.l.contains (j : Int) = true by rw [hOl'.out]; exact hall'.out j hlt]
      rintro e w3 ⟨rfl, rfl⟩
      go_wp2_with fail
      refine (ckMust 15 j 0 _).mono ?_
      rintro e w3 ⟨rfl, rfl⟩
      go_wp2_with fail
      go_roundg (blocks.l.length - (j + 1))
      case measure => have := hg'.out; omega
      case rel => exact ⟨j + 1, by go_num, by omega, rfl, rfl⟩
    · go_wp2_with fail
      refine (grPreds G wr hGr.out (by omega) hG8.out (by rw [hGk'.out]; exact hE)).mono ?_
      rw [hGk'.out]
      rintro e w3 ⟨R, rfl, hRl, hRo, hRb⟩
      have hRl' := Lib.hid hRl
      have hRr := Lib.hid (show kI.sl.sl.rd w3 R from hRo.outer.rd)
      have hb3 := Lib.hid (bthen hb2.out hRb)
      have hGr3 := Lib.hid (kI.sl.sl.below hGr.out hRb)
      have hca3 := Lib.hid (bx_go hca2.out hRb)
      clear hRl hRo hRb
      go_wp2_with fail
      refine (grIdom G F idom w3 hGr3.out (by omega) hG8.out (by rw [hGk'.out]; exact hE) (by rw [hGk'.out, hGn, ← hrl'.out]; exact hin'.out) (by rw [hGk'.out]; exact hpo'.out) (by rw [hGk'.out]; exact hid'.out)).mono ?_
      rintro e w4 ⟨D, rfl, hDl, hDo, hDb⟩
      have hmf : ∀ (fn : Fn) (first cap : Array Value) (w : World), (Instr.makeFunc fn first cap).run Try.prog w = .ok (.func fn first cap) w := fun _ _ _ _ => rfl
      have hDl' := Lib.hid hDl
      have hDr := Lib.hid (show kI.sl.rd w4 D from hDo.rd)
      have hb4 := Lib.hid (bthen hb3.out hDb)
      have hca4 := Lib.hid (bx_go hca3.out hDb)
      have hRr4 := Lib.hid (kI.sl.sl.below hRr.out hDb)
      clear hDl hDo hDb
      have hU0 : US kb mb w.heap.size w4.heap.size 167 164 38 params blocks sites D R w (w4.alloc (.cells #[D.val] 38)) := by
        have hB : Below w4.heap.size w4 (w4.alloc (.cells #[D.val] 38)) := bal (Below.refl _ _) _
        have hBB := bthen hb4.out hB
        exact ⟨hk'.out.chg hBB, bx_go hca4.out hB, heap_alloc_new _ _, kI.sl.below hDr.out hB, kI.sl.sl.below hRr4.out hB, kBlock.sl.below hb'.out hBB, hBB⟩
      have hU0' := Lib.hid hU0
      have d1 : w4.cell? ⟨w.heap.size, 0, none⟩ = some (.pointer (some ⟨kb, 0, none⟩)) := by simp [World.cell?, hca4.out]
      have d2 : w4.cell? ⟨kb, 1, none⟩ = some blocks.val := by rw [hb4.out.cell (p := ⟨kb, 1, none⟩) hkl]; simp [World.cell?, hk'.out.k]
      clear hU0
      have hlt1 : w.heap.size < w4.heap.size := lt_of_block hca4.out
      have hlt2 : kb < w4.heap.size := by omega
      have hRn := Lib.hid (show R.l.length = blocks.l.length by
        have h := congrArg List.length hRl'.out
        rw [List.length_map, prsOf_len] at h
        rw [h]; exact hrl'.out)
      go_wp2_with fail
      clear d1 d2
      go_loopg [56] (blocks.l.length) (fun g q wr => ∃ (b : Nat), q = .int .i64 b ∧ b ≤ blocks.l.length ∧ g = blocks.l.length - b ∧ US kb mb w.heap.size w4.heap.size 167 164 38 params blocks sites D R w wr)
      case atStart => exact ⟨0, rfl, Nat.zero_le _, rfl, hU0'.out⟩
      case round =>
        obtain ⟨b, rfl, hbl, hg, hU⟩ := hrel
        have hgb := Lib.hid hg
        have hU1 := Lib.hid hU
        clear hg hU
        by_cases hlt : b < blocks.l.length
        · obtain ⟨bb, bo, hat, hbb, ⟨e0, e1, e2, e3, e4, e5⟩, hrb⟩ := getBlock 73 88 Try.underlying73 (by kernel_rfl) hU1.out.bl b hlt rfl
          have hbu := blocksUse_at params sites idom (blocks.l.map Block.p) (prsOf rows) (blocks.l.map Block.p) 0 b _ (bk_at blocks hlt) hu'.out
          rw [Nat.zero_add] at hbu
          unfold blockUse at hbu
          simp only [Bool.and_eq_true] at hbu
          obtain ⟨⟨hph, hiu⟩, htu⟩ := hbu
          have hph' := Lib.hid hph
          have hiu' := Lib.hid hiu
          have htu' := Lib.hid htu
          have hbp := Kd.bound (d := kPhi) hrb.1
          have hbi := Kd.bound (d := kIns) hrb.2.1
          have hba := Kd.bound (d := kI) hrb.2.2.1
          have hU9 := Lib.hid (hU1.out.go (bal (Below.refl _ _) (.cells (kBlock.cs blocks.l[b]).toArray 88)))
          clear hph hiu htu hrb
          go_wp2_with fail
          clear hat e0 e1 e2 e3 e4 e5
          obtain ⟨g9, hg9⟩ : ∃ g9, g9 = wr.heap.size := ⟨_, rfl⟩
          rw [← hg9]
          go_loopg [64] (blocks.l[b].phis.l.length) (fun g q W => ∃ (i : Nat), q = .int .i64 i ∧ i ≤ blocks.l[b].phis.l.length ∧ g = blocks.l[b].phis.l.length - i ∧ US kb mb w.heap.size w4.heap.size 167 164 38 params blocks sites D R w W ∧ W.heap[g9]? = some (.cells (kBlock.cs blocks.l[b]).toArray 88 (0, 0)))
          case atStart => exact ⟨0, rfl, Nat.zero_le _, rfl, hU9.out, by rw [hg9]; exact heap_alloc_new _ _⟩
          case round =>
            clear hg9 hU9
            obtain ⟨i, rfl, hi, hg, hU, hx⟩ := hrel
            have hgi := Lib.hid hg
            have hU2 := Lib.hid hU
            have hx2 := Lib.hid hx
            clear hg hU hx
            by_cases hil : i < blocks.l[b].phis.l.length
            · obtain ⟨b3, o3, hat3, hb3, hp0, hp1, hrp⟩ := getPhi 62 93 Try.underlying62 (by kernel_rfl) (hU2.out.bl.2.2.2 _ (List.getElem_mem hlt)).1 i hil rfl
              have hpu := List.all_eq_true.1 hph'.out _ (List.mem_of_getElem? (Jq.ph_at blocks.l[b] hil))
              unfold phiUse at hpu
              simp only [Bool.and_eq_true, decide_eq_true_eq] at hpu
              obtain ⟨⟨hb0, hfr⟩, hus⟩ := hpu
              have hRb : b < R.l.length := by rw [hRn.out]; exact hlt
              obtain ⟨bR, oR, hatR, hbR, hcR, hrR⟩ := getS 146 38 Try.underlying146 (by kernel_rfl) hU2.out.pr b hRb rfl
              have hfr2 : blocks.l[b].phis.l[i].ins.l.map In.from_ = R.l[b].l := by
                have h := eq_of_beq hfr
                rw [show (prsOf rows).getD b [] = R.l[b].l by rw [← hRl'.out]; exact getD_l R.l b hRb] at h
                exact h
              have hfl : blocks.l[b].phis.l[i].ins.l.length = R.l[b].l.length := by
                have h := congrArg List.length hfr2
                simpa using h
              have hlq : ((blocks.l[b].phis.l[i].ins.l.length : Int) == (R.l[b].l.length : Int)) = true := by rw [hfl]; exact beq_self_eq_true _
              have hbI : (0 : Int) < (b : Int) := by omega
              have hbin := Kd.bound (d := kIn) hrp
              have hus' := Lib.hid hus
              have hfr' := Lib.hid hfr2
              have hrp' := Lib.hid hrp
              have hfl' := Lib.hid hfl
              have hrR' := Lib.hid hrR
              clear hus hfr hfr2 hrp hfl hrR
              go_wp2_with fail
              go_quiet (fail)
              obtain ⟨g11, hg11⟩ : ∃ g11, g11 = wr.heap.size := ⟨_, rfl⟩
              have hBq : Below wr.heap.size wr ((wr.alloc (.cells (kPhi.cs blocks.l[b].phis.l[i]).toArray 93)).drewN nq) := bthen (bal (Below.refl _ _) _) (ckdn _ _)
              have hU3 := Lib.hid (hU2.out.go hBq)
              have hx3 := Lib.hid (bx_go hx2.out hBq)
              have hx11 := Lib.hid (show ((wr.alloc (.cells (kPhi.cs blocks.l[b].phis.l[i]).toArray 93)).drewN nq).heap[g11]? = some (.cells (kPhi.cs blocks.l[b].phis.l[i]).toArray 93 (0, 0)) from by rw [hg11]; exact heap_alloc_new _ _)
              clear hat3 hp0 hp1 hatR hcR hBq
              go_wp2_with fail
              rw [← hg11]
              go_loopg [12, 85] (blocks.l[b].phis.l[i].ins.l.length) (fun g f q W => ∃ (j : Nat), f = .bool true ∧ q = .int .i64 j ∧ j ≤ blocks.l[b].phis.l[i].ins.l.length ∧ g = blocks.l[b].phis.l[i].ins.l.length - j ∧ US kb mb w.heap.size w4.heap.size 167 164 38 params blocks sites D R w W ∧ W.heap[g9]? = some (.cells (kBlock.cs blocks.l[b]).toArray 88 (0, 0)) ∧ W.heap[g11]? = some (.cells (kPhi.cs blocks.l[b].phis.l[i]).toArray 93 (0, 0)))
              case atStart => exact ⟨0, rfl, rfl, Nat.zero_le _, rfl, hU3.out, hx3.out, hx11.out⟩
              case round =>
                clear hg11 hU3 hx3 hx11
                obtain ⟨j, rfl, rfl, hj, hg, hU, hx, hy⟩ := hrel
                have hgj := Lib.hid hg
                have hU4 := Lib.hid hU
                have hx4 := Lib.hid hx
                have hy4 := Lib.hid hy
                clear hg hU hx hy
                by_cases hjl : j < blocks.l[b].phis.l[i].ins.l.length
                · have hrdP := (hU4.out.bl.2.2.2 _ (List.getElem_mem hlt)).1.2.2.2 _ (List.getElem_mem hil)
                  obtain ⟨b4, o4, hat4, hb4', hi0, hi1⟩ := getIn 91 90 Try.underlying91 (by kernel_rfl) hrdP j hjl rfl
                  have hjR : j < R.l[b].l.length := by have := hfl'.out; omega
                  obtain ⟨bR, oR, hatR, hbR, hcR, hrR⟩ := getS 146 38 Try.underlying146 (by kernel_rfl) hU4.out.pr b hRb rfl
                  obtain ⟨b5, o5, hat5, hb5, hc5⟩ := getI 38 3 Try.underlying38 (by kernel_rfl) hrR j hjR rfl
                  have heq : (blocks.l[b].phis.l[i].ins.l[j].from_ == R.l[b].l[j]) = true := by
                    have h := congrArg (fun l => l[j]?) hfr'.out
                    simp [hjl, hjR] at h
                    simpa using h
                  clear hrdP hrR
                  go_wp2_with fail
                  go_quiet (fail)
                  have hBq : Below wr.heap.size wr ((wr.alloc (.cells (kIn.cs blocks.l[b].phis.l[i].ins.l[j]).toArray 90)).drewN nq) := bthen (bal (Below.refl _ _) _) (ckdn _ _)
                  have hU5 := Lib.hid (hU4.out.go hBq)
                  have hx5 := Lib.hid (bx_go hx4.out hBq)
                  have hy5 := Lib.hid (bx_go hy4.out hBq)
                  clear hBq hat4 hi0 hi1 hatR hcR hat5 hc5 heq
                  go_wp2_with fail
                  go_roundg (blocks.l[b].phis.l[i].ins.l.length - (j + 1))
                  case measure => have := hgj.out; omega
                  case rel => exact ⟨j + 1, rfl, by go_num, by omega, rfl, hU5.out, hx5.out, hy5.out⟩
                · have d1 : wr.cell? ⟨g11, 1, none⟩ = some blocks.l[b].phis.l[i].ins.val := bx_cell hy4.out rfl
                  go_wp2_with fail
                  refine (ckMust 16 b _ _).mono ?_
                  rintro e w9 ⟨rfl, rfl⟩
                  go_wp2_with fail
                  clear d1
                  go_loopg [112] (blocks.l[b].phis.l[i].ins.l.length) (fun g q W => ∃ (j : Nat), q = .int .i64 j ∧ j ≤ blocks.l[b].phis.l[i].ins.l.length ∧ g = blocks.l[b].phis.l[i].ins.l.length - j ∧ US kb mb w.heap.size w4.heap.size 167 164 38 params blocks sites D R w W ∧ W.heap[g9]? = some (.cells (kBlock.cs blocks.l[b]).toArray 88 (0, 0)))
                  case atStart => exact ⟨0, rfl, Nat.zero_le _, rfl, hU4.out, hx4.out⟩
                  case round =>
                    clear hU4 hx4 hy4 hgj
                    obtain ⟨j, rfl, hj, hg, hU, hx⟩ := hrel
                    have hgj := Lib.hid hg
                    have hU4 := Lib.hid hU
                    have hx4 := Lib.hid hx
                    clear hg hU hx
                    by_cases hjl : j < blocks.l[b].phis.l[i].ins.l.length
                    · have hrdP := (hU4.out.bl.2.2.2 _ (List.getElem_mem hlt)).1.2.2.2 _ (List.getElem_mem hil)
                      obtain ⟨b4, o4, hat4, hb4', hi0, hi1⟩ := getIn 91 90 Try.underlying91 (by kernel_rfl) hrdP j hjl rfl
                      have huj := List.all_eq_true.1 hus'.out _ (List.getElem_mem hjl)
                      simp only [Bool.and_eq_true, decide_eq_true_eq, List.length_map] at huj
                      obtain ⟨⟨hf0, hfn⟩, huse⟩ := huj
                      obtain ⟨x, hx⟩ : ∃ x, x = blocks.l[b].phis.l[i].ins.l[j] := ⟨_, rfl⟩
                      rw [← hx] at hf0 hfn huse hi0 hi1
                      clear hx
                      obtain ⟨kf, hkf⟩ : ∃ kf : Nat, x.from_ = (kf : Int) := ⟨x.from_.toNat, by omega⟩
                      have hkn : kf < blocks.l.length := by omega
                      rw [hkf] at huse hi0
                      rw [show insLen (blocks.l.map Block.p) (kf : Int) = (blocks.l[kf].ins.l.length : Int) by simp [insLen, hkn, Block.p]] at huse
                      obtain ⟨bF, oF, hatF, hbF, ⟨_, f1, _⟩, hrF⟩ := getBlock 73 88 Try.underlying73 (by kernel_rfl) hU4.out.bl kf hkn rfl
                      have hbiF := Kd.bound (d := kIns) hrF.2.1
                      obtain ⟨W1, hW1⟩ : ∃ W1, W1 = wr.alloc (.cells #[.int .i64 (kf : Int), .int .i64 x.val] 90) := ⟨_, rfl⟩
                      have hB1 : Below wr.heap.size wr W1 := by rw [hW1]; exact bal (Below.refl _ _) _
                      have hx16 : W1.heap[wr.heap.size]? = some (.cells [.int .i64 (kf : Int), .int .i64 x.val].toArray 90 (0, 0)) := by rw [hW1]; exact heap_alloc_new _ _
                      have hU5 := Lib.hid (hU4.out.go hB1)
                      have hx5 := Lib.hid (bx_go hx4.out hB1)
                      have q1 := cell_regrown (show W1.cell? ⟨wr.heap.size, 0, none⟩ = some (.int .i64 (kf : Int)) from bx_cell hx16 rfl)
                      have q2 := cell_regrown (show W1.cell? ⟨wr.heap.size, 1, none⟩ = some (.int .i64 x.val) from bx_cell hx16 rfl)
                      have q3 := cell_regrown (show W1.cell? ⟨w.heap.size, 0, none⟩ = some (.pointer (some ⟨kb, 0, none⟩)) by simp [World.cell?, hU5.out.ck])
                      have q4 := cell_regrown (show W1.cell? ⟨kb, 1, none⟩ = some blocks.val by simp [World.cell?, hU5.out.lk.k])
                      have q5 := cell_regrown (show W1.cell? ⟨bF, oF + kf * 6 + 1, none⟩ = some blocks.l[kf].ins.val by rw [hB1.cell (p := ⟨bF, oF + kf * 6 + 1, none⟩) hbF]; exact f1)
                      have cQ : ∀ pl d os, Calls Try.prog 146 #[.int .i64 x.val, .int .i64 (kf : Int), .int .i64 pl, .int .i64 (blocks.l[kf].ins.l.length : Int), .int .i64 (b : Int), .pointer (some ⟨w.heap.size, 0, none⟩), .pointer (some ⟨w4.heap.size, 0, none⟩)] (grow (redrawn W1 d) os) fun e w'' => e = .returned (.tuple #[]) ∧ ∃ p : Regrown, w'' = grow (redrawn W1 p.d) p.os :=
                        fun pl d os => Calls.regrown_of (ckUseQ kb mb w.heap.size w4.heap.size params x.val kf pl blocks.l[kf].ins.l.length b blocks sites D R w W1 hU5.out (by rw [hDl'.out]; exact huse) _ (below_regrown W1 d os))
                      clear f1 hrdP huse hrF
                      have hW1' := Lib.hid hW1
                      clear hW1
                      go_wp2_with fail
                      rw [show wr.alloc (.cells #[.int .i64 (kf : Int), .int .i64 x.val] 90) = W1 from hW1'.out.symm]
                      refine wp_region_quiet_below (by kernel_rfl) (by kernel_rfl) ?_
                      repeat (quiet_step (exact cQ _ _ _))
                      refine wpQuiet_nil ?_
                      intro _ hw'
                      obtain ⟨⟨dq, osq⟩, hw''⟩ := hw'
                      subst hw''
                      have hU6 := Lib.hid (hU5.out.go (below_regrown W1 dq osq))
                      have hx6 := Lib.hid (bx_go hx5.out (below_regrown W1 dq osq))
                      clear q1 q2 q3 q4 q5 cQ hat4 hi0 hi1 hatF
                      go_wp2_with fail
                      go_roundg (blocks.l[b].phis.l[i].ins.l.length - (j + 1))
                      case measure => have := hgj.out; omega
                      case rel => exact ⟨j + 1, by go_num, by omega, rfl, hU6.out, hx6.out⟩
                    · go_wp2_with fail
                      go_roundg (blocks.l[b].phis.l.length - (i + 1))
                      case measure => have := hgi.out; omega
                      case rel => exact ⟨i + 1, by go_num, by omega, rfl, hU4.out, hx4.out⟩
            · have d1 : wr.cell? ⟨g9, 1, none⟩ = some blocks.l[b].ins.val := bx_cell hx2.out rfl
              go_wp2_with fail
              clear d1
              go_loopg [141] (blocks.l[b].ins.l.length) (fun g q W => ∃ (j : Nat), q = .int .i64 j ∧ j ≤ blocks.l[b].ins.l.length ∧ g = blocks.l[b].ins.l.length - j ∧ US kb mb w.heap.size w4.heap.size 167 164 38 params blocks sites D R w W ∧ W.heap[g9]? = some (.cells (kBlock.cs blocks.l[b]).toArray 88 (0, 0)))
              case atStart => exact ⟨0, rfl, Nat.zero_le _, rfl, hU2.out, hx2.out⟩
              case round =>
                clear hU2 hx2 hgi
                obtain ⟨i2, rfl, hi2, hg, hU, hx⟩ := hrel
                have hgi := Lib.hid hg
                have hU2 := Lib.hid hU
                have hx2 := Lib.hid hx
                clear hg hU hx
                by_cases hil2 : i2 < blocks.l[b].ins.l.length
                · obtain ⟨b3, o3, hat3, hb3, ⟨d0, d1, d2, d3, d4⟩, hrm⟩ := getIns 79 78 Try.underlying79 (by kernel_rfl) (hU2.out.bl.2.2.2 _ (List.getElem_mem hlt)).2.1 i2 hil2 rfl
                  have hba2 := Kd.bound (d := kI) hrm
                  have hui := Lib.hid (insUse_at params sites idom b _ 0 i2 _ (is_at blocks.l[b] hil2) hiu'.out)
                  obtain ⟨X, hX⟩ : ∃ X, X = blocks.l[b].ins.l[i2] := ⟨_, rfl⟩
                  have hX' := Lib.hid hX
                  rw [← hX] at d0 d1 d2 d3 d4 hba2
                  have hBq : Below wr.heap.size wr (wr.alloc (.cells #[.int .i64 X.op, .int .i64 X.dst, .int .i64 X.two, X.args.val, .int .i32 X.imm] 78)) := bal (Below.refl _ _) _
                  have hU3 := Lib.hid (hU2.out.go hBq)
                  have hx3 := Lib.hid (bx_go hx2.out hBq)
                  clear hX hrm hBq
                  go_wp2_with fail
                  clear hat3 d0 d1 d2 d3 d4
                  go_loopg [149] (X.args.l.length) (fun g q W => ∃ (j : Nat), q = .int .i64 j ∧ j ≤ X.args.l.length ∧ g = X.args.l.length - j ∧ US kb mb w.heap.size w4.heap.size 167 164 38 params blocks sites D R w W ∧ W.heap[g9]? = some (.cells (kBlock.cs blocks.l[b]).toArray 88 (0, 0)))
                  case atStart => exact ⟨0, rfl, Nat.zero_le _, rfl, hU3.out, hx3.out⟩
                  case round =>
                    clear hU3 hx3
                    obtain ⟨j, rfl, hj, hg, hU, hx⟩ := hrel
                    have hgj := Lib.hid hg
                    have hU4 := Lib.hid hU
                    have hx4 := Lib.hid hx
                    clear hg hU hx
                    by_cases hjl : j < X.args.l.length
                    · have hrdA : kI.sl.rd wr X.args := by
                        rw [hX'.out]
                        exact (hU4.out.bl.2.2.2 _ (List.getElem_mem hlt)).2.1.2.2.2 _ (List.getElem_mem hil2)
                      obtain ⟨b4, o4, hat4, hb4', hc4⟩ := getI 38 3 Try.underlying38 (by kernel_rfl) hrdA j hjl rfl
                      have huv := Lib.hid (show useOk params sites D.l X.args.l[j] b i2 = true by
                        rw [hDl'.out]
                        have h := hui.out X.args.l[j] (by
                          show X.args.l[j] ∈ blocks.l[b].ins.l[i2].args.l
                          rw [← hX'.out]
                          exact List.getElem_mem hjl)
                        rw [Nat.zero_add] at h
                        exact h)
                      clear hrdA
                      go_wp2_with fail
                      refine (ckUseQ kb mb w.heap.size w4.heap.size params X.args.l[j] b i2 i2 b blocks sites D R w wr hU4.out huv.out wr (Below.refl _ _)).mono ?_
                      rintro e w9 ⟨rfl, hb9⟩
                      have hU5 := Lib.hid (hU4.out.go hb9)
                      have hx5 := Lib.hid (bx_go hx4.out hb9)
                      clear hb9 hat4 hc4
                      go_wp2_with fail
                      go_roundg (X.args.l.length - (j + 1))
                      case measure => have := hgj.out; omega
                      case rel => exact ⟨j + 1, by go_num, by omega, rfl, hU5.out, hx5.out⟩
                    · go_wp2_with fail
                      go_roundg (blocks.l[b].ins.l.length - (i2 + 1))
                      case measure => have := hgi.out; omega
                      case rel => exact ⟨i2 + 1, by go_num, by omega, rfl, hU4.out, hx4.out⟩
                · have d1 : wr.cell? ⟨g9, 3, none⟩ = some blocks.l[b].term.args.val := bx_cell hx2.out rfl
                  go_wp2_with fail
                  clear d1
                  go_loopg [166] (blocks.l[b].term.args.l.length) (fun g q W => ∃ (j : Nat), q = .int .i64 j ∧ j ≤ blocks.l[b].term.args.l.length ∧ g = blocks.l[b].term.args.l.length - j ∧ US kb mb w.heap.size w4.heap.size 167 164 38 params blocks sites D R w W ∧ W.heap[g9]? = some (.cells (kBlock.cs blocks.l[b]).toArray 88 (0, 0)))
                  case atStart => exact ⟨0, rfl, Nat.zero_le _, rfl, hU2.out, hx2.out⟩
                  case round =>
                    clear hU2 hx2
                    obtain ⟨j, rfl, hj, hg, hU, hx⟩ := hrel
                    have hgj := Lib.hid hg
                    have hU4 := Lib.hid hU
                    have hx4 := Lib.hid hx
                    clear hg hU hx
                    by_cases hjl : j < blocks.l[b].term.args.l.length
                    · have hrdA : kI.sl.rd wr blocks.l[b].term.args := (hU4.out.bl.2.2.2 _ (List.getElem_mem hlt)).2.2.1
                      obtain ⟨b4, o4, hat4, hb4', hc4⟩ := getI 38 3 Try.underlying38 (by kernel_rfl) hrdA j hjl rfl
                      have huv := Lib.hid (show useOk params sites D.l blocks.l[b].term.args.l[j] b blocks.l[b].ins.l.length = true by
                        rw [hDl'.out]
                        have h := List.all_eq_true.1 htu'.out blocks.l[b].term.args.l[j] (List.getElem_mem hjl)
                        simpa [Block.p] using h)
                      have d1 : wr.cell? ⟨g9, 1, none⟩ = some blocks.l[b].ins.val := bx_cell hx4.out rfl
                      clear hrdA
                      go_wp2_with fail
                      refine (ckUseQ kb mb w.heap.size w4.heap.size params blocks.l[b].term.args.l[j] b blocks.l[b].ins.l.length blocks.l[b].ins.l.length b blocks sites D R w wr hU4.out huv.out wr (Below.refl _ _)).mono ?_
                      rintro e w9 ⟨rfl, hb9⟩
                      have hU5 := Lib.hid (hU4.out.go hb9)
                      have hx5 := Lib.hid (bx_go hx4.out hb9)
                      clear hb9 hat4 hc4 d1
                      go_wp2_with fail
                      go_roundg (blocks.l[b].term.args.l.length - (j + 1))
                      case measure => have := hgj.out; omega
                      case rel => exact ⟨j + 1, by go_num, by omega, rfl, hU5.out, hx5.out⟩
                    · go_wp2_with fail
                      go_roundg (blocks.l.length - (b + 1))
                      case measure => have := hgb.out; omega
                      case rel => exact ⟨b + 1, by go_num, by omega, rfl, hU4.out⟩
        · go_wp2_with fail
          go_end0
          exact ⟨rfl, hU1.out.below⟩
end Go.Proofs.Ytjlehpgfhlkjlaa
