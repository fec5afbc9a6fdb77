/-
  interp.run.phis.
-/
import Derived.Test.YtjlehpgfhlkjlaaInt2
import Derived.Test.YtjlehpgfhlkjlaaIter
import Derived.Test.YtjlehpgfhlkjlaaUses
import Derived.Deep.LoopGhost
import Derived.BigRegion
set_option linter.all false
namespace Jq
open Go Go.RowKit
theorem putV_keys (n v : Int) : ∀ (l : List (Int × Int)), ((putV l n v).map Prod.fst) = if n ∈ l.map Prod.fst then l.map Prod.fst else l.map Prod.fst ++ [n]
  | [] => by simp [putV]
  | (k, x) :: l => by
    rw [putV]
    by_cases h : n = k
    · subst h
      simp
    · rw [if_neg h]
      have ih := putV_keys n v l
      simp only [List.map_cons, ih, List.mem_cons, h, false_or]
      split <;> simp
theorem putV_nodup {l : List (Int × Int)} (n v : Int) (h : (l.map Prod.fst).Nodup) : ((putV l n v).map Prod.fst).Nodup := by
  rw [putV_keys]
  split
  · exact h
  · rename_i hn
    rw [List.nodup_append]
    exact ⟨h, by simp, fun a ha b hb => by rw [List.mem_singleton.1 hb]; rintro rfl; exact hn ha⟩
theorem getV_at : ∀ (l : List (Int × Int)), (l.map Prod.fst).Nodup → ∀ (i : Nat) (h : i < l.length), getV l l[i].1 = l[i].2
  | [], _, i, h => by simp at h
  | (k, v) :: l, hn, 0, _ => by simp [getV]
  | (k, v) :: l, hn, i + 1, h => by
    rw [List.map_cons, List.nodup_cons] at hn
    have h2 : i < l.length := by simpa using h
    rw [List.getElem_cons_succ, getV, if_neg]
    · exact getV_at l hn.2 i h2
    · intro e
      exact hn.1 (by rw [← e]; exact List.mem_map.2 ⟨l[i], List.getElem_mem h2, rfl⟩)
/-- The values, some of the next ones having been put. -/
def curF (n : List (Int × Int)) (seen : List Nat) (f : Int → Int) : Int → Int := fun m => if seen.any (fun i => (n[i]?).map Prod.fst == some m) then getV n m else f m
theorem curF_nil (n : List (Int × Int)) (f : Int → Int) : curF n [] f = f := rfl
theorem curF_put (n : List (Int × Int)) (hn : (n.map Prod.fst).Nodup) (seen : List Nat) (f : Int → Int) (i : Nat) (hi : i < n.length) : putF (curF n seen f) n[i].1 n[i].2 = curF n (seen ++ [i]) f := by
  funext m
  unfold putF curF
  by_cases h : m = n[i].1
  · subst h
    rw [if_pos rfl, if_pos (by simp [hi]), getV_at n hn i hi]
  · rw [if_neg h]
    have e : (seen ++ [i]).any (fun j => (n[j]?).map Prod.fst == some m) = seen.any (fun j => (n[j]?).map Prod.fst == some m) := by
      rw [List.any_append]
      have : ((n[i]?).map Prod.fst == some m) = false := by
        simp only [List.getElem?_eq_getElem hi, Option.map_some]
        simpa using fun e => h e.symm
      simp [this]
    rw [e]
theorem curF_all (n : List (Int × Int)) (seen : List Nat) (f : Int → Int) (h : ∀ i, i < n.length → i ∈ seen) : curF n seen f = fun m => if (n.map Prod.fst).contains m then getV n m else f m := by
  funext m
  unfold curF
  have e : seen.any (fun i => (n[i]?).map Prod.fst == some m) = (n.map Prod.fst).contains m := by
    rw [Bool.eq_iff_iff, List.any_eq_true, List.contains_iff_mem]
    constructor
    · rintro ⟨i, _, hi⟩
      have hi2 : (n[i]?).map Prod.fst = some m := by simpa using hi
      obtain ⟨p, hp, rfl⟩ := Option.map_eq_some_iff.1 hi2
      exact List.mem_map_of_mem (List.mem_of_getElem? hp)
    · intro hm
      obtain ⟨p, hp, rfl⟩ := List.mem_map.1 hm
      obtain ⟨i, hi, rfl⟩ := List.mem_iff_getElem.1 hp
      exact ⟨i, h i hi, by simp [hi]⟩
  rw [e]
theorem nextI_at {vals : Int → Int} {from_ : Int} {l : List (Phi List)} {j : Nat} (hj : j < l.length) {n nF : List (Int × Int)} (h : nextI vals from_ (l.drop j) n = some nF) : ∃ v, phiAt l[j] from_ = some v ∧ nextI vals from_ (l.drop (j + 1)) (putV n l[j].dst (vals v)) = some nF := by
  rw [List.drop_eq_getElem_cons hj, nextI] at h
  split at h
  · exact absurd h (by simp)
  · rename_i v hv; exact ⟨v, hv, h⟩
theorem bsm {n : Nat} {w w1 : World} (h : Below n w w1) (r : Nat) (o : Obj) (hr : n ≤ r) : Below n w (setMap w1 r o) :=
  ⟨h.os, h.tape, h.output, by rw [setMap_size]; exact h.size, fun k hk => (setMap_other (by omega)).trans (h.block k hk)⟩
end Jq
namespace Go.Proofs.Ytjlehpgfhlkjlaa
open Go.RowKit Jq
set_option linter.unusedVariables false
section
variable {kb mb B : Nat} {lim : Int} {w w1 : World} {s : IS} {M : Sl Int} {C : Sl (Jq.Event Sl)} {A : Sl Int}
theorem kW_cells {W : World} {E : Sl Int} (h : kW.sl.rd W E) {q : Nat} (hq : q ∈ kW.sl.fp E) : ∃ cs T fz, W.heap[q]? = some (.cells cs T fz) := by
  have h2 := fpW hq
  have h0 : 0 < E.l.length := by
    refine Nat.pos_of_ne_zero fun e => ?_
    have : E.l = [] := List.eq_nil_of_length_eq_zero e
    simp [Kd.sl, Kd.rfp, this] at hq
  obtain ⟨b, o, hA, hb, hc⟩ := h.2.2.1 h0
  have hqb : q = b := by
    simp [Sl.val, hA, Value.ownBlock] at h2
    exact h2
  subst hqb
  have h3 := hc 0 h0 0 (by decide)
  have h4 : W.heap[q]? = some W.heap[q] := Array.getElem?_eq_getElem hb
  unfold World.cell? at h3
  simp only [h4] at h3
  cases ho : W.heap[q] with
  | cells cs T fz => exact ⟨cs, T, fz, by rw [h4, ho]⟩
  | _ => rw [ho] at h3; simp [kW, Kd.scalar] at h3
/-- Nothing that it holds is changed: cells, and its map. -/
theorem RK.mvc (h : RK kb mb B lim w s M C A) (hm : w1.heap[mb]? = w.heap[mb]?) (hb : ∀ (q : Nat) (cs : Array Value) (T : TypeId) (fz : Nat × Nat), w.heap[q]? = some (.cells cs T fz) → w1.heap[q]? = w.heap[q]?) : RK kb mb B lim w1 s M C A := by
  obtain ⟨l, hl, hg⟩ := h.m
  refine ⟨(hb _ _ _ _ h.k).trans h.k, ⟨l, hm.trans hl, hg⟩, h.mem.mv fun q hq => ?_, h.ml, h.calls.mv fun q hq => ?_, h.cfp, h.cl, kW.sl.mv h.ans fun q hq => ?_, h.afp, h.al, h.ge⟩
  · rcases hq with hq | ⟨x, _, hq⟩
    · obtain ⟨_, cs, hc⟩ := own_blk h.mem hq
      exact hb _ _ _ _ hc
    · simp [kW, Kd.scalar] at hq
  · rcases hq with hq | ⟨x, hx, hq⟩
    · obtain ⟨_, cs, hc⟩ := own_blk h.calls hq
      exact hb _ _ _ _ hc
    · obtain ⟨cs, T, fz, hc⟩ := kW_cells (h.calls.elems x hx) hq
      exact hb _ _ _ _ hc
  · obtain ⟨cs, T, fz, hc⟩ := kW_cells h.ans hq
    exact hb _ _ _ _ hc
theorem inPhis1 (x : In) (n : Int) (g : Nat) (w : World) (hg : w.cell? ⟨g, 0, none⟩ = some (.int .i64 n)) (hl : g < w.heap.size) : Calls Try.prog 114 #[.agg #[.int .i64 x.from_, .int .i64 x.val], .pointer (some ⟨g, 0, none⟩)] w fun e w' => e = .returned (.bool (x.from_ == n)) ∧ Below w.heap.size w w' := by
  go_enter Try.func114, Try.ntmps114
  go_wp2_with fail
  go_ret
  exact ⟨rfl, bal (Below.refl _ _) _⟩
theorem inPhis1_go (xs : Array Value) (W : World) : (callFunc 114 xs).run Try.prog W = .ok (.enter 114 xs) W :=
  run_callFunc_go Try.func114 (by kernel_rfl) rfl xs W
set_option maxRecDepth 100000 in
set_option maxHeartbeats 2000000 in
/-- 'run.phis'. -/
theorem inPhis (h : RK kb mb B lim w s M C A) (hB : B ≤ w.heap.size) (l : Sl (Phi Sl)) (hl : kPhi.sl.rd w l) (fr : Int) (s' : IS) (hx : phisI (l.l.map Phi.p) fr s = some s') :
    Calls Try.prog 77 #[.pointer (some ⟨kb, 0, none⟩), l.val, .int .i64 fr] w (MR kb mb B lim w (.tuple #[]) s') := by
  unfold phisI at hx
  obtain ⟨nF, hnF, rfl⟩ := Option.map_eq_some_iff.1 hx
  have hbd := Kd.bound hl
  have hkl := lt_of_block h.k
  have hml : mb < w.heap.size := by obtain ⟨lv, hlv, _⟩ := h.m; exact lt_of_block hlv
  have hmm := run_newMap (P := Try.prog) 120 .i64
  have hmf : ∀ (fn : Fn) (first cap : Array Value) (w : World), (Instr.makeFunc fn first cap).run Try.prog w = .ok (.func fn first cap) w := fun _ _ _ _ => rfl
  have h' := Lib.hid h
  have hl' := Lib.hid hl
  have hnF' := Lib.hid hnF
  clear h hl hx hnF
  go_enter Try.func77, Try.ntmps77
  go_wp2_with fail
  go_loopg [15] (l.l.length) (fun g q wr => ∃ (j : Nat) (n : List (Int × Int)), q = .int .i64 j ∧ j ≤ l.l.length ∧ g = l.l.length - j ∧ wr.heap[w.heap.size]? = some (.cells [.int .i64 fr].toArray 3 (0, 0)) ∧ wr.heap[w.heap.size + 1]? = some (mapObj .i64 (n.map vE)) ∧ (n.map Prod.fst).Nodup ∧ Below w.heap.size w wr ∧ nextI s.vals fr ((l.l.map Phi.p).drop j) n = some nF)
  case atStart =>
    refine ⟨0, [], rfl, Nat.zero_le _, rfl, ?_, ?_, by simp, bal (bal (Below.refl _ _) _) _, hnF'.out⟩
    · rw [Below.heap_alloc _ _ _ (by simp)]
      exact heap_alloc_new _ _
    · exact ask_last _ _ _ (by simp)
  case round =>
    obtain ⟨j, n, rfl, hj, hg, hbf, hbm, hnd, hb, hnx⟩ := hrel
    have hg' := Lib.hid hg
    have hbf' := Lib.hid hbf
    have hbm' := Lib.hid hbm
    have hnd' := Lib.hid hnd
    have hb' := Lib.hid hb
    have hnx' := Lib.hid hnx
    clear hg hbf hbm hnd hb hnx
    by_cases hlt : j < l.l.length
    · obtain ⟨b3, o3, hat3, hb3, hp0, hp1, hrp⟩ := getPhi 62 93 Try.underlying62 (by kernel_rfl) (kPhi.sl.below hl'.out hb'.out) j hlt rfl
      obtain ⟨v, hv, hnx2⟩ := nextI_at (by simpa using hlt) hnx'.out
      have hnx2' := Lib.hid hnx2
      have hbin := Kd.bound (d := kIn) hrp
      have hrp' := Lib.hid hrp
      have hv' := Lib.hid hv
      clear hrp hv hnx2
      go_wp2_with fail
      clear hat3 hp0 hp1
      have hBx : Below wr.heap.size wr (wr.alloc (.cells (kPhi.cs l.l[j]).toArray 93)) := bal (Below.refl _ _) _
      have hxp : (wr.alloc (.cells (kPhi.cs l.l[j]).toArray 93)).heap[wr.heap.size]? = some (.cells (kPhi.cs l.l[j]).toArray 93 (0, 0)) := heap_alloc_new _ _
      have hxf := bx_go hbf'.out hBx
      refine (indexFuncIn l.l[j].ins 114 #[.pointer (some ⟨w.heap.size, 0, none⟩)] (fun y => y.from_ == fr) _ (kIn.sl.below hrp'.out hBx) ⟨inPhis1_go, fun x _ W hW => inPhis1 x fr w.heap.size W (bx_cell (bx_go hxf hW) rfl) (lt_of_block (bx_go hxf hW))⟩).mono ?_
      rintro e w1 ⟨rfl, hb1⟩
      have hB1 := bthen hBx hb1
      have hxp1 := bx_go hxp hb1
      have hbf1 := Lib.hid (bx_go hbf'.out hB1)
      have hbm1 := Lib.hid (bx_go hbm'.out hB1)
      have hb1' := Lib.hid (bthen hb'.out hB1)
      have hvv := hv'.out
      unfold phiAt at hvv
      rw [show (l.l.map Phi.p)[j]'(by simpa using hlt) = l.l[j].p by simp] at hvv
      split at hvv
      · exact absurd hvv (by simp)
      rename_i hge
      obtain ⟨ni, hni⟩ : ∃ ni : Nat, idx (fun y => y.from_ == fr) l.l[j].ins.l = (ni : Int) := ⟨(idx (fun y : In => y.from_ == fr) l.l[j].ins.l).toNat, by have : ¬ idx (fun y : In => y.from_ == fr) l.l[j].ins.l < 0 := hge; omega⟩
      rw [show (idx (fun y : In => y.from_ == fr) l.l[j].p.ins).toNat = ni from by show (idx (fun y : In => y.from_ == fr) l.l[j].ins.l).toNat = ni; omega] at hvv
      obtain ⟨x, hx, rfl⟩ := Option.map_eq_some_iff.1 hvv
      obtain ⟨hnl, hxx⟩ := List.getElem?_eq_some_iff.1 hx
      have hnl2 : ni < l.l[j].ins.l.length := hnl
      have hxx2 : l.l[j].ins.l[ni] = x := hxx
      rw [hni]
      obtain ⟨b5, o5, h5, hb5, _, hc5⟩ := getIn 91 90 Try.underlying91 (by kernel_rfl) (kIn.sl.below hrp'.out hB1) ni hnl2 rfl
      rw [hxx2] at hc5
      have c0 : w1.cell? ⟨kb, 0, none⟩ = some (.map (some mb)) := by rw [hb1'.out.cell (p := ⟨kb, 0, none⟩) hkl]; exact h'.out.c.1
      have c1 : w1.cell? ⟨wr.heap.size, 0, none⟩ = some (.int .i64 l.l[j].dst) := bx_cell hxp1 rfl
      have c2 : w1.cell? ⟨wr.heap.size, 1, none⟩ = some l.l[j].ins.val := bx_cell hxp1 rfl
      have hask := askV h'.out x.val w1.drew (hb1'.out.block mb hml)
      have hput := run_putKey (P := Try.prog) 120 3 _ .i64 Try.underlying120 Try.underlying3 w1.drew (w.heap.size + 1) (n.map vE) l.l[j].dst (.int .i32 (s.vals x.val)) hbm1.out
      rw [putE_vE] at hput
      have hnx3 := Lib.hid (show nextI s.vals fr ((l.l.map Phi.p).drop (j + 1)) (putV n l.l[j].dst (s.vals x.val)) = some nF from by have h := hnx2'.out; rw [List.getElem_map] at h; exact h)
      clear hBx hxp hxf hb1 hB1 hxp1 hvv hx hnl hxx hxx2 hge hni
      go_wp2_with fail
      go_region
      clear hask hput h5 hc5 c0 c1 c2
      go_wp2_with fail
      go_roundg (l.l.length - (j + 1))
      case measure => have := hg'.out; omega
      case rel =>
        refine ⟨j + 1, _, by go_num, by omega, rfl, ?_, setMap_self (lt_of_block hbm1.out), putV_nodup _ _ hnd'.out, bsm hb1'.out.drew _ _ (by omega), hnx3.out⟩
        exact (setMap_other (by omega)).trans hbf1.out
    · have hjl : j = l.l.length := by omega
      subst hjl
      have hnn : n = nF := by
        have h := hnx'.out
        rw [List.drop_of_length_le (by simp), nextI] at h
        injection h
      subst hnn
      have hRK0 := Lib.hid (h'.out.go hb'.out)
      have hCI0 := Lib.hid (ChI.of (kb := kb) (mb := mb) (B := B) hb'.out)
      go_wp2_with (at_range; refine wpList_range_itr _ rfl _ _ rfl _ _ Try.underlying120 (w.heap.size + 1) n rfl hbm'.out ?_; intro w0 hit hbl hsz)
      go_frame
      obtain ⟨r0, hr0⟩ : ∃ r0, r0 = wr.heap.size := ⟨_, rfl⟩
      rw [← hr0] at hit ⊢
      have hit0 := Lib.hid hit
      have hwr0 : w.heap.size ≤ r0 := by rw [hr0]; exact hb'.out.size
      have hRK1 := Lib.hid (hRK0.out.go hbl)
      have hCI1 := Lib.hid (hCI0.out.below hbl)
      clear hit hbl hsz hr0
      go_loopg [10] (leftN n []) (fun g v wr => ∃ seen, g = leftN n seen ∧ Itr wr r0 (w.heap.size + 1) n seen ∧ RK kb mb B lim wr { s with vals := curF n seen s.vals } M C A ∧ ChI kb mb B w wr)
      case atStart => exact ⟨[], rfl, hit0.out, hRK1.out, hCI1.out⟩
      case round =>
        clear hit0 hRK1 hCI1
        obtain ⟨seen, hg, hit, hR, hC⟩ := hrel
        have hgs := Lib.hid hg
        have hR' := Lib.hid hR
        have hC' := Lib.hid hC
        clear hg hR hC
        go_wp2_with (at_next; refine wpList_next_itr _ rfl _ rfl r0 (w.heap.size + 1) n seen rfl hit ?_ ?_)
        · intro hall
          have hR2 := hR'.out
          rw [curF_all n seen s.vals hall] at hR2
          have hR2' := Lib.hid hR2
          clear hR2
          go_wp2_with fail
          go_end0
          exact ⟨rfl, ⟨_, _, _, hR2'.out⟩, hC'.out⟩
        · intro i hi w' hns hit2 hgr hsz hlt hen
          have hne : ∀ q cs T fz, wr.heap[q]? = some (.cells cs T fz) → q ≠ r0 := fun q cs T fz hq e => by
            obtain ⟨sn, c0, h1, _⟩ := hit.it
            rw [e, h1] at hq
            cases hq
          have hR3 := hR'.out.mvc (w1 := w') (hgr.block mb (by have := hC'.out.size; omega) (fun e => by injection e with e; omega)) (fun q cs T fz hq => hgr.block q (lt_of_block hq) (fun e => by injection e with e; exact hne q cs T fz hq e))
          obtain ⟨lv, hlv, hgv⟩ := hR3.m
          have hput := run_putKey (P := Try.prog) 120 3 _ .i64 Try.underlying120 Try.underlying3 w' mb (lv.map vE) n[i].1 (.int .i32 n[i].2) hlv
          have c0 : w'.cell? ⟨kb, 0, none⟩ = some (.map (some mb)) := hR3.c.1
          have hC3 := Lib.hid (show ChI kb mb B w w' from ⟨hgr.os.trans hC'.out.os, hgr.tape.trans hC'.out.tape, hgr.output.trans hC'.out.output, Nat.le_trans hC'.out.size hgr.size, fun q hq hn => (hgr.block q (Nat.lt_of_lt_of_le hq hC'.out.size) (fun e => by injection e with e; omega)).trans (hC'.out.block q hq hn)⟩)
          have hR4 := hR3.putm lv hlv hgv n[i].1 n[i].2
          have hR4' := Lib.hid (show RK kb mb B lim (setMap w' mb (mapObj .i64 (putE (lv.map vE) n[i].1 (.int .i32 n[i].2)))) { s with vals := curF n (seen ++ [i]) s.vals } M C A from by rw [← curF_put n hnd'.out seen s.vals i hi]; exact hR4)
          have hit3 := Lib.hid hit2
          have hlt' := Lib.hid hlt
          clear hne hR3 hR4 hit hit2 hgr hsz hlt hns
          go_wp2_with fail
          go_roundg (leftN n (seen ++ [i]))
          case measure => have := hgs.out; have := hlt'.out; omega
          case rel => exact ⟨seen ++ [i], rfl, hit3.out.mv (setMap_other (by omega)) (setMap_other (by omega)), hR4'.out, hC3.out.setMap _⟩
end
end Go.Proofs.Ytjlehpgfhlkjlaa
