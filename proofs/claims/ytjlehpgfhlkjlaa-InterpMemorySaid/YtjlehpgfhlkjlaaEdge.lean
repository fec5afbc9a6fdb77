/-
  graph.edges, and its iterator.
-/
import Derived.Test.YtjlehpgfhlkjlaaPIdom
import Derived.RangeFuncNested
import Derived.RangeFuncBound
import Derived.RangeFuncCalls
import Derived.RangeFuncLeaves
import Derived.Shelf.Abstract
import Derived.Shelf.RegionOpen
import Derived.OwnWalkIn
import Derived.TacticsInMore
import Derived.LoopNIn
import Derived.LoopIn
set_option linter.all false
namespace Jq
open Go Go.RowKit
/-- An edge, whose end is a block. -/
abbrev EdgeT (m : Nat) := { p : Int × Int // 0 ≤ p.2 ∧ p.2 < (m : Int) }
theorem own_blk {α : Type} {d : Kd α} {e : TypeId} {base : Nat} {W : World} {u : Sl α} {g : Nat} (h : Jq.Own d e base W u) (hg : some g = u.val.ownBlock) : base ≤ g ∧ ∃ cs, W.heap[g]? = some (.cells cs e (0, 0)) := by
  refine ⟨h.ge g hg, ?_⟩
  rcases h.row.2 with ⟨h1, _⟩ | ⟨g1, c1, cu1, hv1, _, hh1, _⟩
  · rw [h1] at hg; simp [Value.ownBlock] at hg
  · rw [hv1] at hg
    simp only [Value.ownBlock, Option.some.injEq] at hg
    subst hg
    exact ⟨_, hh1⟩
/-- The blocks of rows of one's own are cells. -/
theorem own2_cells {e2 e : TypeId} {base : Nat} {W : World} {t : Sl (Sl Int)} (h : Own2 e2 e base W t) {k : Nat} (hk : k ∈ kI.sl.sl.fp t) : base ≤ k ∧ ∃ cs T, W.heap[k]? = some (.cells cs T (0, 0)) := by
  simp only [Kd.sl, Kd.rfp] at hk
  split at hk
  · simp at hk
  · rcases List.mem_append.1 hk with hk | hk
    · obtain ⟨h1, cs, h2⟩ := own_blk h.outer (g := k) (by
        simp [Sl.blk] at hk
        obtain ⟨a, ha, rfl⟩ := hk
        simp [Sl.val, ha, Value.ownBlock])
      exact ⟨h1, cs, _, h2⟩
    · obtain ⟨x, hx, hk⟩ := List.mem_flatMap.1 hk
      obtain ⟨h1, cs, h2⟩ := own_blk (h.inner x hx) (g := k) (fpI (by simpa [Kd.sl, Kd.rfp] using hk))
      exact ⟨h1, cs, _, h2⟩
/-- What the iterator keeps between rounds: its own rows. -/
structure EI (g : Nat) (t : Sl (Sl Int)) (w1 wr : World) : Prop where
  size : w1.heap.size ≤ wr.heap.size
  same : ∀ k, k ∈ kI.sl.sl.fp t → wr.heap[k]? = w1.heap[k]?
  rows : ∀ k, rowBk g wr k → w1.heap.size ≤ k
theorem EI.step {g : Nat} {t : Sl (Sl Int)} {w1 wr W : World} (h : EI g t w1 wr) (hc : ∀ k, k ∈ kI.sl.sl.fp t → g < k ∧ ∃ cs T, w1.heap[k]? = some (.cells cs T (0, 0))) (hk : KpO g wr W) : EI g t w1 W := by
  refine ⟨Nat.le_trans h.size hk.size, fun k hkk => ?_, fun k hr => ?_⟩
  · obtain ⟨h1, cs, T, h2⟩ := hc k hkk
    have e := h.same k hkk
    rw [h2] at e
    rw [h2]
    refine hk.block k _ e rfl (by omega) fun hr => ?_
    have h3 := h.rows k hr
    have h4 := lt_of_block h2
    omega
  · rcases hk.rows k hr with h1 | h1
    · exact h.rows k h1
    · have := h.size
      omega
theorem EI.rd {g : Nat} {t : Sl (Sl Int)} {w1 wr : World} (h : EI g t w1 wr) (ht : kI.sl.sl.rd w1 t) : kI.sl.sl.rd wr t := kI.sl.sl.mv ht h.same
end Jq
namespace Go.Proofs.Ytjlehpgfhlkjlaa
open Go.RowKit Go.Shelf Jq
attribute [local go_sem] Oper.semAt_some
set_option linter.unusedVariables false
set_option maxHeartbeats 1000000 in
/-- 'graph.edges': the graph is boxed. -/
theorem grEdges (v : Sl (Sl Int)) (w : World) : Calls Try.prog 155 #[v.val] w fun e w' => e = .returned (.func (.func 160) #[] #[.pointer (some ⟨w.heap.size, 0, none⟩)]) ∧ w' = w.alloc (.cells #[v.val] 146) := by
  have hmf : ∀ (fn : Fn) (first cap : Array Value) (w : World), (Instr.makeFunc fn first cap).run Try.prog w = .ok (.func fn first cap) w := fun _ _ _ _ => rfl
  go_enter Try.func155, Try.ntmps155
  go_wp2_with fail
  go_ret
  exact ⟨rfl, rfl⟩
set_option maxRecDepth 100000 in
set_option maxHeartbeats 2000000 in
/-- The iterator: for every body that keeps all but the rows of block g. -/
theorem grEdges1 (n l G0 g N : Nat) (s : Sl (Sl Int)) (J Jx : List (EdgeT s.l.length) → World → Prop) (W : World) (hs : kI.sl.sl.rd W s) (h512 : s.l.length ≤ 512) (h8 : ∀ x, x ∈ s.l → x.l.length * 8 ≤ 140737488355328) (hN : (edgesOf 0 ((s.l.map Sl.l).map (keptOf s.l.length))).length ≤ N)
    (hY : ∀ pre x W1, J pre W1 → pre.length < N → YieldAt Fence.wide (n - 1) Try.prog l #[.int .i64 x.1.1, .int .i64 x.1.2] W1 fun e W' =>
      (e = .returned (.bool true) ∧ J (pre ++ [x]) W' ∧ KpO g W1 W') ∨ (e = .returned (.bool false) ∧ Jx (pre ++ [x]) W'))
    (hc : W.cell? ⟨G0, 0, none⟩ = some s.val) (hg : g < W.heap.size) (hrow : ∀ k, ¬ rowBk g W k) (h0 : J [] W) (hJ : AbidesFrom W.heap.size J) :
    CallsIn Fence.wide n Try.prog 160 #[.func (.yield l) #[] #[], .pointer (some ⟨G0, 0, none⟩)] W fun e W' => (∃ v, e = .returned v) ∧
      ((∃ xs, xs.map (·.1) = edgesOf 0 ((s.l.map Sl.l).map (keptOf s.l.length)) ∧ J xs W') ∨ (∃ pre, True ∧ Jx pre W')) := by
  have hF : Fence.wide.fn 160 := trivial
  have hcl := Lib.hid (grClean s W hs h512 h8)
  have hY' := Lib.hid hY
  have hJ' := Lib.hid hJ
  have h0' := Lib.hid h0
  have hrow' := Lib.hid hrow
  clear hs h8 hY hJ h0 hrow
  refine callsIn_of_wp Try.func160 rfl hF ?_ rfl
  simp only [Try.ntmps160, List.size_toArray, List.length_cons, List.length_nil, Nat.reduceAdd, Nat.reduceSub, Array.replicate_succ, Array.replicate_zero, List.push_toArray, List.append_toArray, List.nil_append, List.cons_append]
  gi_wp2_with fail
  refine ⟨trivial, fun h => absurd h (by simp [Fence.wide]), ?_⟩
  refine (callsIn_wide.2 hcl.out).mono ?_
  rintro e w1 ⟨t, rfl, htl, hto, htb⟩
  have hrd := Lib.hid (show kI.sl.sl.rd w1 t from hto.outer.rd)
  have hcells := Lib.hid (show ∀ k, k ∈ kI.sl.sl.fp t → g < k ∧ ∃ cs T, w1.heap[k]? = some (.cells cs T (0, 0)) from fun k hk => by
    obtain ⟨h1, h2⟩ := own2_cells hto hk
    exact ⟨by omega, h2⟩)
  have htl' := Lib.hid htl
  have hlen : t.l.length = s.l.length := by
    have h := congrArg List.length htl
    simpa using h
  have hlen' := Lib.hid hlen
  have hin := Lib.hid (show ∀ x, x ∈ t.l → ∀ b, b ∈ x.l → 0 ≤ b ∧ b < (s.l.length : Int) from fun x hx b hb => by
    have h : x.l ∈ t.l.map Sl.l := List.mem_map_of_mem hx
    rw [htl] at h
    obtain ⟨row, _, hr⟩ := List.mem_map.1 h
    rw [← hr] at hb
    have := mem_kept hb
    exact this.2)
  have hE0 : EI g t w1 w1 := by
    refine ⟨Nat.le_refl _, fun _ _ => rfl, fun k hr => ?_⟩
    refine absurd ?_ (hrow'.out k)
    obtain ⟨j, A, n, c, hc, hA⟩ := hr
    exact ⟨j, A, n, c, by rw [← hc]; simp only [World.cell?, htb.block g hg], hA⟩
  have hE0' := Lib.hid hE0
  have hJ1 := Lib.hid (show J [] w1 from hJ'.out [] W w1 none h0'.out ⟨htb.os, htb.tape, htb.output, htb.size, fun i hi _ => htb.block i hi⟩ (fun r e => by cases e))
  have hbd := Kd.bound hrd.out
  have htls := Lib.hid (show edgesOf 0 (t.l.map Sl.l) = edgesOf 0 ((s.l.map Sl.l).map (keptOf s.l.length)) by rw [htl])
  clear htl hto htb hE0 hcl hc hlen hg
  gi_wp2_with fail
  gi_loopw [10] (fun i wr => ∃ (a : Nat) (pre : List (EdgeT s.l.length)), i = .int .i64 a ∧ a ≤ t.l.length ∧ pre.map (·.1) = edgesOf 0 ((t.l.map Sl.l).take a) ∧ J pre wr ∧ EI g t w1 wr) (fun i _ => t.l.length - (intOf i).toNat)
  case atStart => exact ⟨0, [], rfl, Nat.zero_le _, rfl, hJ1.out, hE0'.out⟩
  case round =>
    obtain ⟨a, pre, rfl, ha, hpre, hJp, hE⟩ := hrel
    have hpre' := Lib.hid hpre
    have hJp' := Lib.hid hJp
    have hE' := Lib.hid hE
    clear hpre hJp hE
    by_cases hlt : a < t.l.length
    · obtain ⟨b1, o1, h1, hb1, hc1, hr1⟩ := getS 146 38 Try.underlying146 (by kernel_rfl) (hE'.out.rd hrd.out) a hlt rfl
      have hbr := Kd.bound (d := kI) hr1
      have hr1' := Lib.hid hr1
      clear hr1
      gi_wp2_with fail
      clear h1 hc1
      gi_loopw [17] (fun i wr => ∃ (j : Nat) (pre : List (EdgeT s.l.length)), i = .int .i64 j ∧ j ≤ t.l[a].l.length ∧ pre.map (·.1) = edgesOf 0 ((t.l.map Sl.l).take a) ++ (t.l[a].l.take j).map (fun b => ((a : Int), b)) ∧ J pre wr ∧ EI g t w1 wr) (fun i _ => t.l[a].l.length - (intOf i).toNat)
      case atStart => exact ⟨0, pre, rfl, Nat.zero_le _, by rw [hpre'.out]; simp, hJp'.out, hE'.out⟩
      case round =>
        obtain ⟨j, pre, rfl, hj, hpre, hJp, hE⟩ := hrel
        have hpre2 := Lib.hid hpre
        have hE2 := Lib.hid hE
        clear hpre hE
        by_cases hjl : j < t.l[a].l.length
        · obtain ⟨b2, o2, h2, hb2, hc2⟩ := getI 38 3 Try.underlying38 (by kernel_rfl) ((hE2.out.rd hrd.out).2.2.2 _ (List.getElem_mem hlt)) j hjl rfl
          have hbb := hin.out _ (List.getElem_mem hlt) _ (List.getElem_mem hjl)
          have hpl : pre.length < N := by
            have h1 : pre.length = (edgesOf 0 ((t.l.map Sl.l).take a)).length + j := by
              have h := congrArg List.length hpre2.out
              simpa [Nat.min_eq_left hj] using h
            obtain ⟨post, hp⟩ := edges_part (t.l.map Sl.l) (k := a) (by simpa using hlt)
            have h2 := congrArg List.length hp
            rw [htls.out] at h2
            simp only [List.length_append, List.length_map, List.getElem_map] at h2
            omega
          obtain ⟨fn, tmps, assign, body, hy, hR⟩ := hY'.out pre ⟨((a : Int), t.l[a].l[j]), hbb⟩ wr hJp hpl
          dsimp only at hy
          clear hJp hpl
          gi_wp2_with fail
          refine ⟨fun h => absurd h (by simp [Fence.wide]), ?_⟩
          refine hR.mono ?_
          rintro e W3 (⟨rfl, hJ3, hk3⟩ | ⟨rfl, hJx3⟩)
          · have hE3 := Lib.hid (hE2.out.step hcells.out hk3)
            have hJ3' := Lib.hid hJ3
            clear hJ3 hk3
            gi_wp2_with fail
            go_roundw
            case rel => exact ⟨j + 1, pre ++ [⟨((a : Int), t.l[a].l[j]), hin.out _ (List.getElem_mem hlt) _ (List.getElem_mem hjl)⟩], by go_num, by omega, by rw [List.map_append, hpre2.out, List.take_succ_eq_append_getElem hjl, List.map_append, List.append_assoc]; rfl, hJ3'.out, hE3.out⟩
            case measure => simp [intOf]; omega
          · gi_wp2_with fail
            refine bodyPost_ret (results_none rfl _ _ _) rfl ?_
            exact ⟨⟨_, rfl⟩, .inr ⟨_, trivial, hJx3⟩⟩
        · have hje : j = t.l[a].l.length := by omega
          have hJ3' := Lib.hid hJp
          clear hJp
          gi_wp2_with fail
          go_roundw
          case rel => exact ⟨a + 1, pre, by go_num, by omega, by rw [hpre2.out, edges_take _ (by simpa using hlt), hje, List.take_length]; simp, hJ3'.out, hE2.out⟩
          case measure => simp [intOf]; omega
    · have hal : a = t.l.length := by omega
      gi_wp2_with fail
      go_end0
      exact ⟨⟨_, rfl⟩, .inl ⟨pre, by rw [hpre'.out, hal, ← htls.out, List.take_of_length_le (by simp)], hJp'.out⟩⟩
end Go.Proofs.Ytjlehpgfhlkjlaa
