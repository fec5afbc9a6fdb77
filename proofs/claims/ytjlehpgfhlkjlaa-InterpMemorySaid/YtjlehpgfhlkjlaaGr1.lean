/-
  graph.kept, graph.clean, graph.Of.
-/
import Derived.Test.YtjlehpgfhlkjlaaSort
import Derived.Test.YtjlehpgfhlkjlaaCk2
import Derived.Test.YtjlehpgfhlkjlaaClone
import Derived.Test.YtjlehpgfhlkjlaaOwn2
import Derived.Test.YtjlehpgfhlkjlaaEv
import Derived.Deep.QuietTactic
import Derived.BigQuiet
import Derived.StillTailTactics
import Derived.Deep.LoopGhost
import Derived.Deep.DeepMust
import Derived.Deep.OwnRows
set_option linter.all false
namespace Jq
open Go Go.RowKit
/-- Which numbers of a row are blocks. -/
def isB (n : Int) (b : Int) : Bool := decide (0 ≤ b) && decide (b < n)
/-- graph.kept. -/
def keptOf (n : Int) (l : List Int) : List Int := Lib.compact ((l.filter (isB n)).mergeSort fun x y => decide (x ≤ y))
theorem filter_take (p : Int → Bool) (l : List Int) {j : Nat} (h : j < l.length) : (l.take (j + 1)).filter p = (l.take j).filter p ++ if p l[j] then [l[j]] else [] := by
  rw [List.take_succ_eq_append_getElem h, List.filter_append]
  congr 1
  by_cases hp : p l[j] <;> simp [hp]
end Jq
namespace Go.Proofs.Ytjlehpgfhlkjlaa
open Go.RowKit Jq
set_option linter.unusedVariables false
set_option maxRecDepth 100000 in
set_option maxHeartbeats 1000000 in
/-- 'graph.kept'. -/
theorem grKept (s : Sl Int) (n : Int) (w : World) (hs : kI.sl.rd w s) (h8 : s.l.length * 8 ≤ 140737488355328) : Calls Try.prog 151 #[s.val, .int .i64 n] w (RetSl kI 3 w (keptOf n s.l)) := by
  have hbd := Kd.bound hs
  have hs' := Lib.hid hs
  clear hs
  go_enter Try.func151, Try.ntmps151
  go_wp2_with fail
  go_loopg [5, 10] (s.l.length) (fun g a q wr => ∃ (j : Nat) (o : Sl Int), q = .int .i64 j ∧ a = o.val ∧ j ≤ s.l.length ∧ g = s.l.length - j ∧ Own kI 3 w.heap.size wr o ∧ Below w.heap.size w wr ∧ o.l = (s.l.take j).filter (isB n))
  case atStart => exact ⟨0, nilSl, rfl, rfl, Nat.zero_le _, rfl, Own.nil _ _ _ _, Below.refl _ _, rfl⟩
  case round =>
    obtain ⟨j, o, rfl, rfl, hj, hg, ho, hb, hl⟩ := hrel
    have ho' := Lib.hid ho
    have hb' := Lib.hid hb
    have hl' := Lib.hid hl
    have hg' := Lib.hid hg
    clear ho hb hl hg
    by_cases hlt : j < s.l.length
    · obtain ⟨b1, o1, h1, hb1, hc1⟩ := getI 38 3 Try.underlying38 (by kernel_rfl) (kI.sl.below hs'.out (hb'.out.mono (by exact Nat.le_refl _))) j hlt rfl
      have hft := Lib.hid (filter_take (isB n) s.l hlt)
      by_cases hp : isB n s.l[j] = true
      · have hp2 : 0 ≤ s.l[j] ∧ s.l[j] < n := by simpa [isB] using hp
        obtain ⟨q1, q2⟩ := hp2
        have hp' := Lib.hid hp
        have hol : o.l.length ≤ j := by rw [hl'.out]; exact Nat.le_trans (List.length_filter_le _ _) (by simp; omega)
        clear hp
        go_wp2_with (at_builtin; go_must (refine wpList_app kI (by decide) kI_one w.heap.size rfl 38 3 _ _ rfl (.int .i64 0) 8 Try.underlying38 infoI rfl (by decide) _ o ⟨some ⟨wr.heap.size, 0, none⟩, 1, [s.l[j]]⟩ rfl rfl (ho'.out.below (bal (Below.refl _ _) _)) (own_lit (.int .i64) 3 0 wr [s.l[j]] (by simp) (by simp)).rd (by have := hb'.out.size; simp; omega) kI_apart (by simp only [List.length_singleton]; omega) ?_; intro o2 w9 hown hl2 hgr hat; have hown' := Lib.hid hown; have hl2' := Lib.hid hl2; have hB := Lib.hid (Below.grown (bthen hb'.out (bal (Below.refl _ _) (.cells #[.int .i64 s.l[j]] 3))) hgr (by have := hb'.out.size; simp; omega) (fun q hq => ho'.out.ge q hq.symm)); clear hown hl2 hgr hat))
        go_roundg (s.l.length - (j + 1))
        case measure => have := hg'.out; omega
        case rel => exact ⟨j + 1, o2, by go_num, rfl, by omega, rfl, hown'.out, hB.out, by rw [hl2'.out, hl'.out, hft.out, if_pos hp'.out]⟩
      · have hp' := Lib.hid hp
        by_cases q1 : 0 ≤ s.l[j]
        · have q2 : n ≤ s.l[j] := by
            have h := hp'.out
            simp [isB] at h
            omega
          clear hp
          go_wp2_with fail
          go_roundg (s.l.length - (j + 1))
          case measure => have := hg'.out; omega
          case rel => exact ⟨j + 1, o, by go_num, rfl, by omega, rfl, ho'.out, hb'.out, by rw [hl'.out, hft.out, if_neg hp'.out]; simp⟩
        · have q2 : s.l[j] < 0 := by omega
          clear hp
          go_wp2_with fail
          go_roundg (s.l.length - (j + 1))
          case measure => have := hg'.out; omega
          case rel => exact ⟨j + 1, o, by go_num, rfl, by omega, rfl, ho'.out, hb'.out, by rw [hl'.out, hft.out, if_neg hp'.out]; simp⟩
    · have hjl : j = s.l.length := by omega
      subst hjl
      go_wp2_with fail
      refine (own_sort o w.heap.size wr ho'.out).mono ?_
      rintro e w1 ⟨rfl, o2, hv2, hl2, hown2, hg2⟩
      have hb2 := Lib.hid (hb'.out.grown hg2 hb'.out.size (fun q hq => ho'.out.ge q hq.symm))
      have hown2' := Lib.hid hown2
      have hl2' := Lib.hid hl2
      have hv2' := Lib.hid hv2
      clear hown2 hl2 hv2 hg2
      go_wp2_with fail
      rw [← hv2'.out]
      refine (own_compact o2 w.heap.size w1 hown2'.out).mono ?_
      rintro e w2 ⟨o3, rfl, hl3, hown3, hg3⟩
      have hb3 := Lib.hid (hb2.out.grown hg3 hb2.out.size (fun q hq => hown2'.out.ge q hq.symm))
      have hown3' := Lib.hid hown3
      have hl3' := Lib.hid hl3
      clear hown3 hl3 hg3
      go_wp2_with fail
      go_ret
      exact ⟨o3, rfl, by rw [hl3'.out, hl2'.out, hl'.out, List.take_length]; rfl, hown3'.out, hb3.out⟩
theorem getS {P : Program} (T e : TypeId) (hT : P.underlying T = some (.slice e)) {w : World} {s : Sl (Sl Int)} (hsz : (P.info? e).map (·.size) = some 1) (h : kI.sl.sl.rd w s) (i : Int) {k : Nat} (hk : k < s.l.length) (hi : i = k) :
    ∃ b o, (∀ W, (Instr.indexAt T s.val (.int .i64 i)).run P W = .ok (.pointer (some ⟨b, o + k, none⟩)) W) ∧ b < w.heap.size ∧ w.cell? ⟨b, o + k, none⟩ = some s.l[k].val ∧ kI.sl.rd w s.l[k] := by
  obtain ⟨b, o, h1, h2, h3, h4⟩ := kI.sl.get T e hT hsz h i hk hi
  have h0 := h3 0 (by decide)
  refine ⟨b, o, ?_, h2, ?_, h4⟩
  · simpa [Kd.sl] using h1
  · simpa [Kd.sl] using h0
theorem keptOf_len (n : Int) (l : List Int) : (keptOf n l).length ≤ l.length := by
  unfold keptOf
  refine Nat.le_trans (Lib.compact_length_le _) ?_
  rw [List.length_mergeSort]
  exact List.length_filter_le _ _
/-- A row of rows of the call's own is handed back. -/
def RetSl2 (w : World) (l : List (List Int)) (en : Ending) (w' : World) : Prop :=
  ∃ t : Sl (Sl Int), en = .returned t.val ∧ t.l.map Sl.l = l ∧ Own2 38 3 w.heap.size w' t ∧ Below w.heap.size w w'
/-- What the loops of clean and Of keep: j rows are laid. -/
structure RW (w : World) (n : Nat) (l : List (List Int)) (j : Nat) (ps : List (Sl Int)) (G : Nat) (wr : World) : Prop where
  len : ps.length = n
  own : Own2 38 3 w.heap.size wr ⟨some ⟨G, 0, none⟩, n, ps⟩
  below : Below w.heap.size w wr
  rows : (ps.map Sl.l).take j = l.take j
theorem RW.go {w : World} {n : Nat} {l : List (List Int)} {j : Nat} {ps : List (Sl Int)} {G : Nat} {wr w1 : World} (h : RW w n l j ps G wr) (hb : Below wr.heap.size wr w1) : RW w n l j ps G w1 :=
  ⟨h.len, h.own.below hb, bthen h.below hb, h.rows⟩
theorem RW.put {w : World} {n : Nat} {l : List (List Int)} {j : Nat} {ps : List (Sl Int)} {G : Nat} {wr w1 : World} (h : RW w n l j ps G wr) (hj : j < n) (hl : l.length = n) (t : Sl Int) (ht : Own kI 3 wr.heap.size w1 t) (hb : Below wr.heap.size wr w1) (htl : t.l = l[j]) :
    w1.cell? ⟨G, j, none⟩ = some (ps[j]'(by rw [h.len]; exact hj)).val ∧ w1.frozen? ⟨G, j, none⟩ = false ∧ RW w n l (j + 1) (ps.set j t) G (w1.setCell ⟨G, j, none⟩ t.val) := by
  obtain ⟨g, hA, hge, _, hc, hf, hob, h2⟩ := h.own.put2 (by decide) (k := j) (by show j < ps.length; rw [h.len]; exact hj) ht hb h.below.size
  simp only [Option.some.injEq, Addr.mk.injEq] at hA
  obtain ⟨rfl, _⟩ := hA
  refine ⟨hc, hf, by rw [List.length_set]; exact h.len, h2, bset (bthen h.below hb) _ _ hge, ?_⟩
  have hjl : j < l.length := by omega
  have hjp : j < (ps.map Sl.l).length := by rw [List.length_map, h.len]; exact hj
  have hr := h.rows
  rw [List.map_set, List.take_succ_eq_append_getElem (by simpa using hjp), List.take_succ_eq_append_getElem hjl, List.take_set_of_le (Nat.le_refl _), hr]
  congr 1
  simp [htl]
set_option maxRecDepth 100000 in
set_option maxHeartbeats 1000000 in
/-- 'graph.clean'. -/
theorem grClean (s : Sl (Sl Int)) (w : World) (hs : kI.sl.sl.rd w s) (h512 : s.l.length ≤ 512) (h8 : ∀ x, x ∈ s.l → x.l.length * 8 ≤ 140737488355328) : Calls Try.prog 152 #[s.val] w (RetSl2 w ((s.l.map Sl.l).map (keptOf s.l.length))) := by
  have hs' := Lib.hid hs
  have h8' := Lib.hid h8
  have hmk := mkPreds s.l.length h512
  clear hs h8
  go_enter Try.func152, Try.ntmps152
  go_wp2_with fail
  clear hmk
  go_loopg [11] (s.l.length) (fun g q wr => ∃ (j : Nat) (ps : List (Sl Int)), q = .int .i64 j ∧ j ≤ s.l.length ∧ g = s.l.length - j ∧ RW w s.l.length ((s.l.map Sl.l).map (keptOf s.l.length)) j ps w.heap.size wr)
  case atStart => exact ⟨0, _, rfl, Nat.zero_le _, rfl, ⟨by simp, own2_made _ _ _ w s.l.length (Nat.le_refl _) (by omega), bal (Below.refl _ _) _, by simp⟩⟩
  case round =>
    obtain ⟨j, ps, rfl, hj, hg, hR⟩ := hrel
    have hR' := Lib.hid hR
    have hg' := Lib.hid hg
    clear hR hg
    by_cases hlt : j < s.l.length
    · obtain ⟨b1, o1, h1, hb1, hc1, hr1⟩ := getS 146 38 Try.underlying146 (by kernel_rfl) (kI.sl.sl.below hs'.out (hR'.out.below)) j hlt rfl
      have hr1' := Lib.hid hr1
      clear hr1
      go_wp2_with fail
      clear h1 hc1
      refine (grKept s.l[j] s.l.length wr hr1'.out (h8'.out _ (List.getElem_mem hlt))).mono ?_
      rintro e w1 ⟨t, rfl, htl, hto, htb⟩
      obtain ⟨p1, p2, p3⟩ := hR'.out.put hlt (by simp) t hto htb (by rw [htl]; simp)
      have p3' := Lib.hid p3
      clear htl hto htb p3
      have hpl : j < ps.length := by rw [hR'.out.len]; exact hlt
      go_wp2_with fail
      go_roundg (s.l.length - (j + 1))
      case measure => have := hg'.out; omega
      case rel => exact ⟨j + 1, _, by go_num, by omega, rfl, p3'.out⟩
    · have hjl : j = s.l.length := by omega
      subst hjl
      go_wp2_with fail
      go_ret
      have hrows := hR'.out.rows
      rw [List.take_of_length_le (by simp [hR'.out.len]), List.take_of_length_le (by simp)] at hrows
      refine ⟨⟨some ⟨w.heap.size, 0, none⟩, s.l.length, ps⟩, ?_, hrows, hR'.out.own, hR'.out.below⟩
      simp [Sl.val, hR'.out.len]
theorem Own2.lower {e2 e : TypeId} {base base' : Nat} {w : World} {s : Sl (Sl Int)} (h : Own2 e2 e base w s) (hb : base' ≤ base) : Own2 e2 e base' w s := ⟨h.outer.lower hb, fun x hx => (h.inner x hx).lower hb, h.pair⟩
theorem Own2.lower' {e2 e : TypeId} {w wo wr : World} {s : Sl (Sl Int)} (h : Own2 e2 e (w.heap.size + 1) wr s) (hs : wo.heap.size = w.heap.size + 1) : Own2 e2 e wo.heap.size wr s := by rw [hs]; exact h
theorem RW.chg {w : World} {n : Nat} {l : List (List Int)} {j : Nat} {ps : List (Sl Int)} {G : Nat} {wr : World} (h : RW w n l j ps G wr) (k : Nat) (hk : k < w.heap.size) : wr.heap[k]? = w.heap[k]? := h.below.block k hk
set_option maxRecDepth 100000 in
set_option maxHeartbeats 1000000 in
/-- 'graph.Of'. -/
theorem grOf (f : Jq.Func Sl) (w : World) (hs : kFunc.rd w f) (h512 : f.blocks.l.length ≤ 512) (h8 : ∀ x, x ∈ f.blocks.l → x.term.to.l.length * 8 ≤ 140737488355328) : Calls Try.prog 142 #[.agg #[.int .i64 f.params, f.blocks.val]] w (RetSl2 w (f.blocks.l.map fun b => keptOf f.blocks.l.length b.term.to.l)) := by
  have hs' := Lib.hid (show kBlock.sl.rd w f.blocks from hs)
  have h8' := Lib.hid h8
  have hmk := mkPreds f.blocks.l.length h512
  clear hs h8
  go_enter Try.func142, Try.ntmps142
  go_wp2_with fail
  clear hmk
  obtain ⟨wo, hwo⟩ : ∃ wo, wo = w.alloc (.cells #[.int .i64 f.params, f.blocks.val] 75) := ⟨_, rfl⟩
  have hbox : wo.heap[w.heap.size]? = some (.cells #[.int .i64 f.params, f.blocks.val] 75 (0, 0)) := by rw [hwo]; exact heap_alloc_new _ _
  have hbo : Below w.heap.size w wo := by rw [hwo]; exact bal (Below.refl _ _) _
  have hso : wo.heap.size = w.heap.size + 1 := by rw [hwo]; simp
  have hbox' := Lib.hid hbox
  have hbo' := Lib.hid hbo
  have hso' := Lib.hid hso
  clear hbox hbo hso
  go_loopg [13] (f.blocks.l.length) (fun g q wr => ∃ (j : Nat) (ps : List (Sl Int)), q = .int .i64 j ∧ j ≤ f.blocks.l.length ∧ g = f.blocks.l.length - j ∧ RW wo f.blocks.l.length (f.blocks.l.map fun b => keptOf f.blocks.l.length b.term.to.l) j ps (w.heap.size + 1) wr)
  case atStart =>
    rw [← hwo]
    have h := own2_made 38 3 wo.heap.size wo f.blocks.l.length (Nat.le_refl _) (by omega)
    rw [hso'.out] at h
    exact ⟨0, List.replicate f.blocks.l.length nilSl, rfl, Nat.zero_le _, rfl, ⟨by simp, Own2.lower' h hso'.out, bal (Below.refl _ _) _, by simp⟩⟩
  case round =>
    clear hwo
    obtain ⟨j, ps, rfl, hj, hg, hR⟩ := hrel
    have hR' := Lib.hid hR
    have hg' := Lib.hid hg
    clear hR hg
    by_cases hlt : j < f.blocks.l.length
    · obtain ⟨b1, o1, h1, hb1, ⟨c0, c1, c2, c3, c4, c5⟩, hr1⟩ := getBlock 73 88 Try.underlying73 (by kernel_rfl) (kBlock.sl.below (kBlock.sl.below hs'.out hbo'.out) hR'.out.below) j hlt rfl
      have hr1' := Lib.hid hr1.2.2.2
      clear hr1
      have hw1 : w.heap.size < wr.heap.size := by have := hR'.out.below.size; have := hso'.out; omega
      have hbx := (hR'.out.chg w.heap.size (by have := hso'.out; omega)).trans hbox'.out
      have d1 : wr.cell? ⟨w.heap.size, 1, none⟩ = some f.blocks.val := by simp [World.cell?, hbx]
      clear hbx
      go_wp2_with fail
      clear h1 c0 c1 c2 c3 c4 c5 d1
      have hW : Below wr.heap.size wr (wr.alloc (.cells (kBlock.cs f.blocks.l[j]).toArray 88)) := bal (Below.refl _ _) _
      refine (grKept f.blocks.l[j].term.to f.blocks.l.length _ (kI.sl.below hr1'.out hW) (h8'.out _ (List.getElem_mem hlt))).mono ?_
      rintro e w1 ⟨t, rfl, htl, hto, htb⟩
      obtain ⟨p1, p2, p3⟩ := (hR'.out.go hW).put hlt (by simp) t hto htb (by rw [htl]; simp)
      have p3' := Lib.hid p3
      clear htl hto htb p3
      have hpl : j < ps.length := by rw [hR'.out.len]; exact hlt
      go_wp2_with fail
      go_roundg (f.blocks.l.length - (j + 1))
      case measure => have := hg'.out; omega
      case rel => exact ⟨j + 1, _, by go_num, by omega, rfl, p3'.out⟩
    · have hjl : j = f.blocks.l.length := by omega
      subst hjl
      go_wp2_with fail
      go_ret
      have hrows := hR'.out.rows
      rw [List.take_of_length_le (by simp [hR'.out.len]), List.take_of_length_le (by simp)] at hrows
      refine ⟨⟨some ⟨w.heap.size + 1, 0, none⟩, f.blocks.l.length, ps⟩, ?_, hrows, ?_, ?_⟩
      · simp [Sl.val, hR'.out.len]
      · exact Own2.lower hR'.out.own (by have := hso'.out; omega)
      · exact hbo'.out.trans (hR'.out.below.mono (by have := hso'.out; omega))
end Go.Proofs.Ytjlehpgfhlkjlaa
