/-
  check.shapes, and looker.shape, on the road where nothing is wrong.
-/
import Derived.Test.YtjlehpgfhlkjlaaCk2
import Derived.Deep.RegionWith
import Derived.Deep.QuietTactic
import Derived.BigQuiet
import Derived.IntWalk
set_option linter.all false
namespace Go.Proofs.Ytjlehpgfhlkjlaa
open Go.RowKit Jq
set_option maxRecDepth 100000 in
set_option maxHeartbeats 8000000 in
/-- 'check.shapes'. -/
theorem ckShapes (w : World) : Calls Try.prog 141 #[] w fun e w' => ∃ r, e = .returned (.map (some r)) ∧ w'.heap[r]? = some (mapObj .i64 shapeL) ∧ Below w.heap.size w w' := by
  have hlc := lk_cons
  have hln := lk_nil
  have hmm := run_newMap (P := Try.prog) 177 .i64
  have hins := run_newKey (P := Try.prog) 177 3 _ .i64 Try.underlying177 Try.underlying3
  go_enter Try.func141, Try.ntmps141
  go_wp2_with fail
  go_ret
  exact ⟨_, rfl, heap_alloc_new _ _, bal (by repeat (first | exact Below.refl _ _ | refine Below.drew ?_)) _⟩
theorem ckWithinQ (n a b : Int) (h : decide (a ≤ n ∧ n ≤ b) = true) (w : World) : Calls Try.prog 129 #[.int .i64 n, .int .i64 a, .int .i64 b] w fun e w' => e = .returned (.bool true) ∧ w' = w :=
  (ckWithin n a b w).mono fun e w' hh => ⟨by rw [hh.1, h], hh.2.symm⟩
theorem ckMustQ (e b p : Int) (w : World) : Calls Try.prog 128 #[.bool true, .int .i64 e, .int .i64 b, .int .i64 p] w fun en w' => en = .returned (.tuple #[]) ∧ w' = w :=
  (ckMust e b p w).mono fun e w' hh => ⟨hh.1, hh.2.symm⟩
/-- 'looker.all', of one number. -/
theorem ckAll1 (kb mb : Nat) (params b p n : Int) (blocks : Sl (Block Sl)) (g : Nat) (T : TypeId) (l l2 : List Site) (w : World) (hk : LK kb mb params blocks 167 w l) (hg : w.heap[g]? = some (.cells #[.int .i64 n] T (0, 0))) (hgm : g ≠ mb) (h : allSites params b p [n] l = some l2) :
    Calls Try.prog 138 #[.pointer (some ⟨kb, 0, none⟩), .slice (some ⟨g, 0, none⟩) 1 1, .int .i64 b, .int .i64 p] w fun e w' => e = .returned (.tuple #[]) ∧ LK kb mb params blocks 167 w' l2 ∧ Chg (fun k => k = mb) w w' := by
  refine ckAll kb mb params b p blocks ⟨some ⟨g, 0, none⟩, 1, [n]⟩ l l2 w hk ?_ ?_ h
  · refine ⟨Nat.le_refl _, (by decide : (1 : Nat) ≤ 140737488355328), fun _ => ⟨g, 0, rfl, lt_of_block hg, fun k hk j hj => ?_⟩, fun y hy => trivial⟩
    obtain rfl : k = 0 := by simpa using hk
    obtain rfl : j = 0 := by simpa [kI, Kd.scalar] using hj
    show w.cell? ⟨g, _, none⟩ = _
    simp [World.cell?, hg, kI, Kd.scalar]
  · intro k hk
    have := fpI hk
    simp [Value.ownBlock] at this
    omega
/-- What stands in a round over a block: the looker, the block's copy (in block wg.heap.size), nothing changed but the map. -/
structure CS (kb mb : Nat) (params : Int) (blocks : Sl (Block Sl)) (x : Block Sl) (wo : World) (gb : Nat) (wr : World) (l : List Site) : Prop where
  lk : LK kb mb params blocks 167 wr l
  chg : Chg (fun k => k = mb) wo wr
  cp : wr.heap[gb]? = some (.cells (kBlock.cs x).toArray 88 (0, 0))
  ne : gb ≠ mb
namespace CS
variable {kb mb : Nat} {params : Int} {blocks : Sl (Block Sl)} {x : Block Sl} {wo wr W : World} {gb : Nat} {l l1 : List Site}
theorem go (h : CS kb mb params blocks x wo gb wr l) (hl : LK kb mb params blocks 167 W l1) (hc : Chg (fun k => k = mb) wr W) : CS kb mb params blocks x wo gb W l1 :=
  ⟨hl, h.chg.trans hc, (hc.block gb (lt_of_block h.cp) h.ne).trans h.cp, h.ne⟩
theorem below (h : CS kb mb params blocks x wo gb wr l) (hb : Below wr.heap.size wr W) : CS kb mb params blocks x wo gb W l := h.go (h.lk.chg hb) (Chg.of hb)
theorem cell (h : CS kb mb params blocks x wo gb wr l) (j : Nat) (v : Value) (hv : (kBlock.cs x)[j]? = some v) : wr.cell? ⟨gb, j, none⟩ = some v := by
  simp only [World.cell?, h.cp]
  simpa using hv
theorem lt (h : CS kb mb params blocks x wo gb wr l) : gb < wr.heap.size := lt_of_block h.cp
end CS
theorem ckdn (w : World) (n : Nat) : Below w.heap.size w (w.drewN n) := ⟨rfl, rfl, rfl, Nat.le_refl _, fun _ _ => rfl⟩
theorem fr_cell {W w1 : World} (hb : Below W.heap.size W w1) (g j : Nat) : g < W.heap.size → w1.cell? ⟨g, j, none⟩ = W.cell? ⟨g, j, none⟩ := fun h => by
  simp only [World.cell?, hb.block g h]
theorem fr_frozen {W w1 : World} (hb : Below W.heap.size W w1) (g j : Nat) : g < W.heap.size → w1.frozen? ⟨g, j, none⟩ = W.frozen? ⟨g, j, none⟩ := fun h => by
  simp only [World.frozen?, hb.block g h]
set_option maxRecDepth 100000 in
set_option maxHeartbeats 1000000 in
/-- 'looker.shape'. -/
theorem ckShape (kb mb : Nat) (params : Int) (blocks : Sl (Block Sl)) (l2 : List Site) (w : World) (hk : LK kb mb params blocks 167 w []) (hrd : ∀ W, Chg (fun k => k = mb) w W → kBlock.sl.rd W blocks) (h : blocksSites params blocks.l.length 0 (blocks.l.map Block.p) [] = some l2) :
    Calls Try.prog 130 #[.pointer (some ⟨kb, 0, none⟩)] w fun e w' => e = .returned (.tuple #[]) ∧ LK kb mb params blocks 167 w' l2 ∧ Chg (fun k => k = mb) w w' := by
  have hbd := Kd.bound (hrd w (Chg.refl _ _))
  have hmb := lt_of_block hk.m
  have c1 : w.cell? ⟨kb, 1, none⟩ = some blocks.val := by simp [World.cell?, hk.k]
  have hk' := Lib.hid hk
  have hrd' := Lib.hid hrd
  have h' := Lib.hid h
  clear hk hrd h
  go_enter Try.func130, Try.ntmps130
  go_wp2_with fail
  clear c1
  go_loopg [20] (blocks.l.length) (fun g q wr => ∃ (b : Nat) (lb : List Site), q = .int .i64 b ∧ b ≤ blocks.l.length ∧ g = blocks.l.length - b ∧ LK kb mb params blocks 167 wr lb ∧ Chg (fun k => k = mb) w wr ∧ blocksSites params blocks.l.length b ((blocks.l.map Block.p).drop b) lb = some l2)
  case atStart => exact ⟨0, [], rfl, Nat.zero_le _, rfl, hk'.out, Chg.refl _ _, h'.out⟩
  case round =>
    obtain ⟨wg, rfl⟩ : ∃ wg : World, wg = wr := ⟨wr, rfl⟩
    obtain ⟨k, lb, rfl, hk, hg, HL, HC, hbs⟩ := hrel
    have HL' := Lib.hid HL
    have HC' := Lib.hid HC
    have hbs' := Lib.hid hbs
    have hgk' := Lib.hid hg
    clear HL HC hbs hg
    by_cases hlt : k < blocks.l.length
    · obtain ⟨b, o, hat, hb, ⟨c0, c1, c2, c3, c4, c5⟩, hrb⟩ := getBlock 73 88 Try.underlying73 (by kernel_rfl) (hrd'.out _ HC'.out) k hlt rfl
      have hrx := Lib.hid (show ∀ W, Chg (fun k => k = mb) w W → kBlock.rd W blocks.l[k] from fun W hW => (hrd'.out W hW).2.2.2 _ (List.getElem_mem hlt))
      obtain ⟨l1, l3, hps, his, htm, hrest⟩ := blocksSites_at (bk_at blocks hlt) hbs'.out
      have hps' := Lib.hid hps
      have his' := Lib.hid his
      have htm' := Lib.hid htm
      have hrest' := Lib.hid hrest
      have hbp := Kd.bound (d := kPhi) hrb.1
      have hbi := Kd.bound (d := kIns) hrb.2.1
      have hbt := Kd.bound (d := kI) hrb.2.2.2
      have hba := Kd.bound (d := kI) hrb.2.2.1
      have hsz := Lib.hid HC'.out.size
      have hCS : CS kb mb params blocks blocks.l[k] w wg.heap.size (wg.alloc (.cells (kBlock.cs blocks.l[k]).toArray 88)) lb := ⟨HL'.out.chg (bal (Below.refl _ _) _), HC'.out.below (bal (Below.refl _ _) _), heap_alloc_new _ _, by have := hsz.out; omega⟩
      have hCS' := Lib.hid hCS
      clear hCS hrb hps his htm hrest
      go_wp2_with fail
      clear hat c0 c1 c2 c3 c4 c5
      go_loopg [28] (blocks.l[k].phis.l.length) (fun g q wr => ∃ (j : Nat) (lj : List Site), q = .int .i64 j ∧ j ≤ blocks.l[k].phis.l.length ∧ g = blocks.l[k].phis.l.length - j ∧ CS kb mb params blocks blocks.l[k] w wg.heap.size wr lj ∧ phiSites params k j (blocks.l[k].p.phis.drop j) lj = some l1)
      case atStart => exact ⟨0, lb, rfl, Nat.zero_le _, rfl, hCS'.out, hps'.out⟩
      case round =>
        obtain ⟨i, lj, rfl, hi, hg, HX, hpe⟩ := hrel
        have HX' := Lib.hid HX
        have hpe' := Lib.hid hpe
        have hgi' := Lib.hid hg
        clear HX hpe hg
        by_cases hil : i < blocks.l[k].phis.l.length
        · obtain ⟨b3, o3, hat3, hb3, hp0, hp1, hrp⟩ := getPhi 62 93 Try.underlying62 (by kernel_rfl) (hrx.out _ HX'.out.chg).1 i hil rfl
          obtain ⟨lj1, ha1, hpn⟩ := phiSites_at (ph_at blocks.l[k] hil) hpe'.out
          have ha1' := Lib.hid ha1
          have hpn' := Lib.hid hpn
          clear hrp ha1 hpn
          go_wp2_with fail
          clear hat3 hp0 hp1
          have hCX := Lib.hid (HX'.out.below (bal (bal (Below.refl _ _) (.cells #[.int .i64 blocks.l[k].phis.l[i].dst, blocks.l[k].phis.l[i].ins.val] 93)) (.cells #[.int .i64 blocks.l[k].phis.l[i].dst] 3)))
          refine (ckAll1 kb mb params k (-1 - (i : Int)) blocks.l[k].phis.l[i].dst blocks (wr.heap.size + 1) 3 lj lj1 _ hCX.out.lk (ask_last _ _ _ (by simp)) (by have := HX'.out.lt; have := hsz.out; simp; omega) ha1'.out).mono ?_
          rintro e w1 ⟨rfl, hl1, hc1⟩
          have HY := Lib.hid (hCX.out.go hl1 hc1)
          clear hl1 hc1 hCX
          go_wp2_with fail
          go_roundg (blocks.l[k].phis.l.length - (i + 1))
          case measure => have := hgi'.out; omega
          case rel => exact ⟨i + 1, lj1, by go_num, by omega, rfl, HY.out, hpn'.out⟩
        · have hpn := phiSites_end (by simp only [Block.p, List.length_map]; omega) hpe'.out
          subst hpn
          have cx := HX'.out.cell 1 _ rfl
          go_wp2_with fail
          clear cx
          go_loopg [45] (blocks.l[k].ins.l.length) (fun g q wr => ∃ (j : Nat) (lj : List Site), q = .int .i64 j ∧ j ≤ blocks.l[k].ins.l.length ∧ g = blocks.l[k].ins.l.length - j ∧ CS kb mb params blocks blocks.l[k] w wg.heap.size wr lj ∧ insSites params k j (blocks.l[k].p.ins.drop j) lj = some l3)
          case atStart => exact ⟨0, _, rfl, Nat.zero_le _, rfl, HX'.out, his'.out⟩
          case round =>
            obtain ⟨i2, lj, rfl, hi2, hg, HX2, hie⟩ := hrel
            have HX2' := Lib.hid HX2
            have hie' := Lib.hid hie
            have hgi2' := Lib.hid hg
            clear HX2 hie hg
            by_cases hil2 : i2 < blocks.l[k].ins.l.length
            · obtain ⟨b3, o3, hat3, hb3, ⟨d0, d1, d2, d3, d4⟩, hrm⟩ := getIns 79 78 Try.underlying79 (by kernel_rfl) (hrx.out _ HX2'.out.chg).2.1 i2 hil2 rfl
              obtain ⟨hsh, lj1, ha1, hpn⟩ := insSites_at (is_at blocks.l[k] hil2) hie'.out
              have ha1' := Lib.hid ha1
              have hpn' := Lib.hid hpn
              have hsh' := Lib.hid hsh
              have hba2 := Kd.bound (d := kI) hrm
              have hrm' := Lib.hid hrm
              clear hrm ha1 hpn hsh
              obtain ⟨X, hX⟩ : ∃ X, X = blocks.l[k].ins.l[i2] := ⟨_, rfl⟩
              have hX' := Lib.hid hX
              rw [← hX] at d0 d1 d2 d3 d4 hba2
              clear hX
              have hop := Lib.hid (show decide (1 ≤ X.op ∧ X.op ≤ 18) = true from by have h := hsh'.out; rw [← hX'.out] at h; simp only [insShape, Bool.and_eq_true] at h; exact h.1)
              have har := Lib.hid (show decide (opLo X.op ≤ (X.args.l.length : Int) ∧ (X.args.l.length : Int) ≤ opHi X.op) = true from by have h := hsh'.out; rw [← hX'.out] at h; simp only [insShape, Bool.and_eq_true] at h; exact h.2)
              go_wp2_with fail
              clear hat3 d0 d1 d2 d3 d4
              refine (ckWithin X.op 1 18 _).mono ?_
              rw [hop.out]
              rintro e w1 ⟨rfl, rfl⟩
              go_wp2_with fail
              refine (ckMust 10 k i2 _).mono ?_
              rintro e w1 ⟨rfl, rfl⟩
              go_wp2_with fail
              refine (ckOperands X.op _).mono ?_
              rintro e w1 ⟨rfl, rfl⟩
              go_wp2_with fail
              refine (ckWithin X.args.l.length (opLo X.op) (opHi X.op) _).mono ?_
              rw [har.out]
              rintro e w1 ⟨rfl, rfl⟩
              go_wp2_with fail
              refine (ckMust 10 k i2 _).mono ?_
              rintro e w1 ⟨rfl, rfl⟩
              go_wp2_with fail
              refine (ckMakes X _).mono ?_
              rintro e w1 ⟨S, rfl, hSl, hSo, hSb⟩
              have HY := Lib.hid ((HX2'.out.below (bal (Below.refl _ _) _)).below hSb)
              have hSo' := Lib.hid hSo
              have hSl' := Lib.hid hSl
              clear hSb hSl hSo
              go_wp2_with fail
              refine (ckAll kb mb params k i2 blocks S lj lj1 _ HY.out.lk hSo'.out.rd (fun q hq => by have h1 := hSo'.out.ge q (fpI hq); have h2 := HX2'.out.lt; have h3 := hsz.out; simp at h1; omega) (by rw [hSl'.out, hX'.out]; exact ha1'.out)).mono ?_
              rintro e w2 ⟨rfl, hl1, hc1⟩
              have HZ := Lib.hid (HY.out.go hl1 hc1)
              clear hl1 hc1
              go_wp2_with fail
              go_roundg (blocks.l[k].ins.l.length - (i2 + 1))
              case measure => have := hgi2'.out; omega
              case rel => exact ⟨i2 + 1, lj1, by go_num, by omega, rfl, HZ.out, hpn'.out⟩
            · have hpn := insSites_end (by simp only [Block.p, List.length_map]; omega) hie'.out
              subst hpn
              obtain ⟨a, m, t, l, hso, hta, htt⟩ := termShape_of (show termShape blocks.l[k].term.kind blocks.l[k].term.args.l.length blocks.l[k].term.to.l.length = true from by have h := htm'.out; simp only [termOk, Bool.and_eq_true] at h; exact h.1)
              have hso' := Lib.hid (lk_shape _ _ _ _ _ hso)
              have hta' := Lib.hid hta
              have htt' := Lib.hid htt
              clear hso hta htt
              have cx2 := HX2'.out.cell 2 _ rfl
              go_upto_region 16 with fail
              obtain ⟨wz, hwz⟩ : ∃ wz : World, wz = wr := ⟨wr, rfl⟩
              subst hwz
              go_cut [10, 11] (fun u v wx => ∃ q, u = .pointer (some ⟨q, 0, none⟩) ∧ v = .bool true ∧ wx.cell? ⟨q, 0, none⟩ = some (.int .i64 a) ∧ wx.cell? ⟨q, 1, none⟩ = some (.int .i64 m) ∧ wx.cell? ⟨q, 2, none⟩ = some (.int .i64 t) ∧ wx.cell? ⟨q, 3, none⟩ = some (.int .i64 l) ∧ Below wz.heap.size wz wx)
              case first =>
                have hgl : wg.heap.size < wz.heap.size := HX2'.out.lt
                have hS := Lib.hid (show ∀ W, Below wz.heap.size wz W → W.cell? ⟨wg.heap.size, 2, none⟩ = some (.int .i64 blocks.l[k].term.kind) from fun W hW => (HX2'.out.below hW).cell 2 _ rfl)
                have hcell : wz.cell? ⟨wg.heap.size, 2, none⟩ = some (.int .i64 blocks.l[k].term.kind) := HX2'.out.cell 2 _ rfl
                go_region_with (go_at_call 141; refine (ckShapes _).mono ?_; rintro e w1 ⟨r, rfl, hr, hb1⟩; have hrl := lt_of_block hr; have hB := Lib.hid (show Below wz.heap.size wz w1 from bthen (by repeat (first | exact Below.refl _ _ | refine bal ?_ _ | refine Below.drew ?_)) hb1); have hS2 := hS.out w1 hB.out; have hgl2 : wg.heap.size < w1.heap.size := (by have := hB.out.size; omega); have hask := (fun W hW => run_ask2 (P := Try.prog) 177 3 _ .i64 Try.underlying177 Try.underlying3 (.agg #[.int .i64 0, .int .i64 0, .int .i64 0, .int .i64 0]) (fun w => by kernel_rfl) W r shapeL blocks.l[k].term.kind hW); simp only [hso'.out, Option.getD_some, Option.isSome_some] at hask; have hask1 := hask w1 hr; have hask2 := (fun o => hask (w1.alloc o) ((Below.heap_alloc w1 o r hrl).trans hr)); have hr' := Lib.hid hr; have e0 := fr_cell hb1 wz.heap.size 0; have e1 := fr_cell hb1 wz.heap.size 1; have e2 := fr_cell hb1 wz.heap.size 2; have e3 := fr_cell hb1 wz.heap.size 3; have g0 := fr_frozen hb1 wz.heap.size 0; have g1 := fr_frozen hb1 wz.heap.size 1; have g2 := fr_frozen hb1 wz.heap.size 2; have g3 := fr_frozen hb1 wz.heap.size 3; simp at e0 e1 e2 e3 g0 g1 g2 g3; clear hb1 hask hr)
                all_goals (go_wp2_with fail; go_meet; refine ⟨_, rfl, rfl, ?_, ?_, ?_, ?_, ?_⟩)
                all_goals (first | (go_simp; done) | (repeat (first | exact hB.out | refine bal ?_ _ | refine bset ?_ _ _ (by simp) | refine Below.drew ?_)))
              case rest =>
                obtain ⟨q, rfl, rfl, e0, e1, e2, e3, hb⟩ := hcut
                have HX3 := Lib.hid (HX2'.out.below hb)
                have hta1 := Lib.hid (decide_eq_true hta'.out)
                have htt1 := Lib.hid (decide_eq_true htt'.out)
                clear hb
                have cx1 := HX3.out.cell 1 _ rfl
                have cx3 := HX3.out.cell 3 _ rfl
                have cx4 := HX3.out.cell 4 _ rfl
                go_wp2_with fail
                go_quiet (first | (go_at_call 129; refine Calls.quiet_of_same (ckWithinQ _ _ _ ?_ _); first | with_reducible exact hta1.out | with_reducible exact htt1.out) | (go_at_call 128; exact Calls.quiet_of_same (ckMustQ _ _ _ _)))
                have HX4 := Lib.hid (HX3.out.below (ckdn _ nq))
                clear cx1 cx3 cx4 e0 e1 e2 e3
                have cx4 := HX4.out.cell 4 _ rfl
                go_wp2_with fail
                clear cx4
                go_loopg [118] (blocks.l[k].term.to.l.length) (fun g q wr => ∃ (j : Nat), q = .int .i64 j ∧ j ≤ blocks.l[k].term.to.l.length ∧ g = blocks.l[k].term.to.l.length - j ∧ CS kb mb params blocks blocks.l[k] w wg.heap.size wr lj)
                case atStart => exact ⟨0, rfl, Nat.zero_le _, rfl, HX4.out⟩
                case round =>
                  obtain ⟨j, rfl, hj, hg, HX5⟩ := hrel
                  have HX5' := Lib.hid HX5
                  have hgj' := Lib.hid hg
                  clear HX5 hg
                  by_cases hjl : j < blocks.l[k].term.to.l.length
                  · obtain ⟨b7, o7, hat7, hb7, hc7⟩ := getI 38 3 Try.underlying38 (by kernel_rfl) (hrx.out _ HX5'.out.chg).2.2.2 j hjl rfl
                    have cx1 := HX5'.out.cell 1 _ rfl
                    have ck1 : wr.cell? ⟨kb, 1, none⟩ = some blocks.val := by simp [World.cell?, HX5'.out.lk.k]
                    have hwr : IntKind.i64.wrap ((blocks.l.length : Int) - 1) = (blocks.l.length : Int) - 1 := IntWalk.i64_in _ (by omega)
                    have hto := Lib.hid (show decide (1 ≤ blocks.l[k].term.to.l[j] ∧ blocks.l[k].term.to.l[j] ≤ (blocks.l.length : Int) - 1) = true from by have h := htm'.out; simp only [termOk, Bool.and_eq_true] at h; exact List.all_eq_true.1 h.2 _ (List.getElem_mem hjl))
                    go_wp2_with fail
                    clear hat7 hc7
                    go_quiet (first | (go_at_call 129; exact Calls.quiet_of_same (ckWithinQ _ 1 ((blocks.l.length : Int) - 1) hto.out _)) | (go_at_call 128; exact Calls.quiet_of_same (ckMustQ _ _ _ _)))
                    clear hwr cx1 ck1
                    go_wp2_with fail
                    go_roundg (blocks.l[k].term.to.l.length - (j + 1))
                    case measure => have := hgj'.out; omega
                    case rel => exact ⟨j + 1, by go_num, by omega, rfl, HX5'.out.below (ckdn _ _)⟩
                  · go_wp2_with fail
                    go_roundg (blocks.l.length - (k + 1))
                    case measure => have := hgk'.out; omega
                    case rel => exact ⟨k + 1, lj, by go_num, by omega, rfl, HX5'.out.lk, HX5'.out.chg, hrest'.out⟩
    · have hbn := blocksSites_end (by simp only [List.length_map]; omega) hbs'.out
      subst hbn
      go_wp2_with fail
      go_end0
      exact ⟨rfl, HL'.out, HC'.out⟩
end Go.Proofs.Ytjlehpgfhlkjlaa
