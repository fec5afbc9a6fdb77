/-
  mach.graph.
-/
import Derived.Test.YtjlehpgfhlkjlaaSl4
import Derived.Test.YtjlehpgfhlkjlaaQueue
import Derived.Test.YtjlehpgfhlkjlaaPGraph
import Derived.Deep.LoopGhost
import Derived.Deep.DeepMust
import Derived.Deep.OwnRows
import Derived.Deep.QuietTactic
import Derived.BigQuiet
import Derived.StillTailTactics
set_option linter.all false
namespace Go.Proofs.Ytjlehpgfhlkjlaa
open Go.RowKit Jq Go.Deep
theorem one_rd (W : World) (x : Int) (g e : Nat) (hg : g = W.heap.size) : kI.sl.rd (W.alloc (.cells #[.int .i64 x] e)) ⟨some ⟨g, 0, none⟩, 1, [x]⟩ := by
  subst hg
  exact (own_lit (.int .i64) e 0 W [x] (Nat.zero_le _) (by simp)).rd
theorem bdn (w : World) (n : Nat) : Below w.heap.size w (w.drewN n) := ⟨rfl, rfl, rfl, Nat.le_refl _, fun _ _ => rfl⟩
theorem infoS : (Try.prog.info? 38).map (fun i => (i.zero, i.size, i.bytes)) = some (some (.slice none 0 0), 1, 24) := by kernel_rfl
theorem infoB : (Try.prog.info? 4).map (fun i => (i.zero, i.size, i.bytes)) = some (some (.bool false), 1, 1) := by kernel_rfl
theorem mkPreds (n : Nat) (hn : n ≤ 512) : ∀ W : World, (Instr.makeSlice 146 (.int .i64 (n : Int)) (.int .i64 (n : Int))).run Try.prog W = .ok (.slice (some ⟨W.heap.size, 0, none⟩) n n) (W.alloc (.cells (madeCells #[.slice none 0 0] n) 38)) :=
  fun W => run_make_row' 146 38 (.slice none 0 0) 24 Try.underlying146 infoS rfl .i64 .i64 n (by omega) (by omega) W
theorem mkReached (n : Nat) (hn : n ≤ 512) : ∀ W : World, (Instr.makeSlice 128 (.int .i64 (n : Int)) (.int .i64 (n : Int))).run Try.prog W = .ok (.slice (some ⟨W.heap.size, 0, none⟩) n n) (W.alloc (.cells (madeCells #[.bool false] n) 4)) :=
  fun W => run_make_row' 128 4 (.bool false) 1 Try.underlying128 infoB rfl .i64 .i64 n (by omega) (by omega) W

/-- What the loops of mach.graph keep: the rows of predecessors, those of what is reached, the code's own box. -/
structure GI (m : MFunc Sl) (w : World) (ps : List (Sl Int)) (wr : World) : Prop where
  len : ps.length = m.blocks.l.length
  own : Own2 38 3 w.heap.size wr ⟨some ⟨w.heap.size + 1, 0, none⟩, m.blocks.l.length, ps⟩
  reached : Own kB 4 w.heap.size wr ⟨some ⟨w.heap.size + 1 + 1, 0, none⟩, m.blocks.l.length, List.replicate m.blocks.l.length false⟩
  box : wr.heap[w.heap.size]? = some (.cells #[.int .i64 m.params, m.blocks.val] 24 (0, 0))
  below : Below w.heap.size w wr
theorem GI.go {m : MFunc Sl} {w : World} {ps : List (Sl Int)} {wr w1 : World} (h : GI m w ps wr) (hb : Below wr.heap.size wr w1) : GI m w ps w1 :=
  ⟨h.len, h.own.below hb, h.reached.below hb, (hb.block _ (Array.getElem?_eq_some_iff.1 h.box).1).trans h.box, h.below.trans (hb.mono h.below.size)⟩
theorem tos_at (m : MFunc Sl) {k : Nat} (hk : k < m.blocks.l.length) : (tosOf m.p).drop k = m.blocks.l[k].fin.to.l :: (tosOf m.p).drop (k + 1) := by
  have hl : (tosOf m.p).length = m.blocks.l.length := by simp [tosOf, MFunc.p]
  rw [List.drop_eq_getElem_cons (by omega)]
  congr 1
  simp [tosOf, MFunc.p, MBlock.p, End.p]
theorem tos_end (m : MFunc Sl) {k : Nat} (hk : m.blocks.l.length ≤ k) : (tosOf m.p).drop k = [] := by
  apply List.drop_eq_nil_of_le
  simpa [tosOf, MFunc.p] using hk

theorem getD_l (ps : List (Sl Int)) (t : Nat) (h : t < ps.length) : (ps.map Sl.l).getD t [] = ps[t].l := by simp [List.getD_eq_getElem?_getD, h]
/-- A row of predecessors has been appended to, and stored. -/
theorem GI.put {m : MFunc Sl} {w : World} {ps : List (Sl Int)} {wr w1 : World} (h : GI m w ps wr) {t : Nat} (ht : t < ps.length) (x : Sl Int) (hx : Own kI 3 w.heap.size w1 x) (hg : wr.grownBy w1 ps[t].val.ownBlock)
    (hat : x.val.ownBlock = ps[t].val.ownBlock ∨ x.val.ownBlock = some wr.heap.size) :
    w1.cell? ⟨w.heap.size + 1, t, none⟩ = some ps[t].val ∧ w1.frozen? ⟨w.heap.size + 1, t, none⟩ = false ∧ GI m w (ps.set t x) (w1.setCell ⟨w.heap.size + 1, t, none⟩ x.val) := by
  obtain ⟨G, hA, _, _, hc, hf, hob, h2⟩ := h.own.put (by decide) (k := t) ht hx hg hat
  simp only [Option.some.injEq, Addr.mk.injEq] at hA
  obtain ⟨rfl, _⟩ := hA
  have hm : ps[t] ∈ ps := List.getElem_mem ht
  have hne : ∀ k, k < wr.heap.size → (∀ cur, wr.heap[k]? ≠ some (.cells cur 3 (0, 0))) → w1.heap[k]? = wr.heap[k]? := by
    intro k hk hty
    refine hg.block k hk fun e1 => ?_
    rcases (h.own.inner _ hm).row.2 with ⟨h3, _⟩ | ⟨g3, c3, cu3, hv3, _, hh3, _⟩
    · rw [h3] at e1; simp [Value.ownBlock] at e1
    · rw [hv3] at e1
      simp only [Value.ownBlock, Option.some.injEq] at e1
      subst e1
      exact hty _ hh3
  refine ⟨hc, hf, ⟨by simpa using h.len, h2, ?_, ?_, ?_⟩⟩
  · refine h.reached.mv fun k hk => ?_
    rcases hk with hk | ⟨y, _, hk⟩
    · rcases h.reached.row.2 with ⟨h3, _⟩ | ⟨g3, c3, cu3, hv3, _, hh3, _⟩
      · rw [h3] at hk; simp [Value.ownBlock] at hk
      · rw [hv3] at hk
        simp only [Value.ownBlock, Option.some.injEq] at hk
        subst hk
        have hv3' := hv3
        simp only [Sl.val, Value.slice.injEq, Option.some.injEq, Addr.mk.injEq] at hv3'
        have e3 := hv3'.1.1
        refine (Below.heap_setCell _ _ _ _ (by show _ ≠ w.heap.size + 1; omega)).trans (hne _ (Array.getElem?_eq_some_iff.1 hh3).1 fun cur => ?_)
        rw [hh3]
        simp
    · simp [kB, Kd.scalar] at hk
  · refine (Below.heap_setCell _ _ _ _ (by show _ ≠ w.heap.size + 1; omega)).trans ((hne _ (Array.getElem?_eq_some_iff.1 h.box).1 fun cur => ?_).trans h.box)
    rw [h.box]
    simp
  · exact bset (h.below.grown hg (h.below.size) (fun k hk => ((h.own.inner _ hm).row.lt k hk).1)) _ _ (by simp)

/-- What the search keeps. -/
structure GQ (m : MFunc Sl) (w wg : World) (r : List Bool) (s : Sl Int) (wr : World) : Prop where
  keep : KeepBut (w.heap.size + 1 + 1) wg wr
  que : Que 3 wg.heap.size wr s
  len : r.length = m.blocks.l.length
  reached : Own kB 4 w.heap.size wr ⟨some ⟨w.heap.size + 1 + 1, 0, none⟩, m.blocks.l.length, r⟩
  below : Below w.heap.size w wr
  vals : ∀ x, x ∈ s.l → 0 ≤ x ∧ x < m.blocks.l.length
theorem GQ.go {m : MFunc Sl} {w wg : World} {r : List Bool} {s : Sl Int} {wr w1 : World} (h : GQ m w wg r s wr) (hb : Below wr.heap.size wr w1) : GQ m w wg r s w1 :=
  ⟨h.keep.below hb, h.que.below hb, h.len, h.reached.below hb, bthen h.below hb, h.vals⟩

/-- A block that is reached now. -/
theorem GQ.mark {m : MFunc Sl} {w wg : World} {r : List Bool} {s : Sl Int} {wr : World} (h : GQ m w wg r s wr) {t : Nat} (ht : t < m.blocks.l.length) :
    wr.cell? ⟨w.heap.size + 1 + 1, t, none⟩ = some (.bool (r.getD t false)) ∧ wr.frozen? ⟨w.heap.size + 1 + 1, t, none⟩ = false ∧ GQ m w wg (r.set t true) s (wr.setCell ⟨w.heap.size + 1 + 1, t, none⟩ (.bool true)) := by
  have htr : t < r.length := by rw [h.len]; exact ht
  obtain ⟨G, hA, hb, hl, hc, hf, hob, hset⟩ := h.reached.spot .bool rfl (fun _ => rfl) (k := t) htr
  simp only [Option.some.injEq, Addr.mk.injEq] at hA
  obtain ⟨rfl, _⟩ := hA
  have e1 : r.getD t false = r[t] := by simp [List.getD_eq_getElem?_getD, htr]
  refine ⟨by rw [e1]; exact hc, hf, h.keep.set _ _, h.que.mv fun k hk => Below.heap_setCell _ _ _ _ ?_, by simpa using h.len, hset true trivial (fun q hq => by simp [kB, Kd.scalar] at hq), bset h.below _ _ (by show _ ≤ w.heap.size + 1 + 1; omega), h.vals⟩
  show k ≠ w.heap.size + 1 + 1
  intro e2
  obtain ⟨_, _, cur, hcur⟩ := h.que.lt k hk
  rcases h.reached.row.2 with ⟨h3, _⟩ | ⟨g3, c3, cu3, hv3, _, hh3, _⟩
  · simp [Sl.val] at h3
  · have hv3' := hv3
    simp only [Sl.val, Value.slice.injEq, Option.some.injEq, Addr.mk.injEq] at hv3'
    have e3 := hv3'.1.1
    rw [← e3, ← e2, hcur] at hh3
    injection hh3 with hh3
    injection hh3 with _ hty
    exact absurd hty (by decide)
/-- A block that waits now. -/
theorem GQ.push {m : MFunc Sl} {w wg : World} {r : List Bool} {s s' : Sl Int} {wr w1 : World} (h : GQ m w wg r s wr) {t : Nat} (ht : t < m.blocks.l.length) (hq : Que 3 wg.heap.size w1 s') (hl : s'.l = s.l ++ [(t : Int)]) (hg : wr.grownBy w1 s.val.ownBlock) (hw : w.heap.size ≤ wg.heap.size) : GQ m w wg r s' w1 := by
  have hrow : ∀ k, s.val.ownBlock = some k → wg.heap.size ≤ k := fun k hk => (h.que.lt k hk.symm).1
  refine ⟨h.keep.grown hg hrow, hq, h.len, h.reached.mv fun k hk => ?_, h.below.grown hg h.below.size (fun k hk => by have := hrow k hk; omega), ?_⟩
  · rcases hk with hk | ⟨x, _, hk⟩
    · refine hg.block k (h.reached.row.lt k hk.symm).2 fun e1 => ?_
      obtain ⟨_, _, cur, hcur⟩ := h.que.lt k e1
      rcases h.reached.row.2 with ⟨h3, _⟩ | ⟨g3, c3, cu3, hv3, _, hh3, _⟩
      · simp [Sl.val] at h3
      · rw [hv3] at hk
        simp only [Value.ownBlock, Option.some.injEq] at hk
        subst hk
        rw [hcur] at hh3
        injection hh3 with hh3
        injection hh3 with _ hty
        exact absurd hty (by decide)
    · simp [kB, Kd.scalar] at hk
  · intro x hx
    rw [hl] at hx
    rcases List.mem_append.1 hx with hx | hx
    · exact h.vals x hx
    · simp at hx; subst hx; omega

/-- What is kept behind the search. -/
structure GP (m : MFunc Sl) (w : World) (ps : List (Sl Int)) (wr : World) : Prop where
  len : ps.length = m.blocks.l.length
  own : Own2 38 3 w.heap.size wr ⟨some ⟨w.heap.size + 1, 0, none⟩, m.blocks.l.length, ps⟩
  box : wr.heap[w.heap.size]? = some (.cells #[.int .i64 m.params, m.blocks.val] 24 (0, 0))
  below : Below w.heap.size w wr
theorem GP.go {m : MFunc Sl} {w : World} {ps : List (Sl Int)} {wr w1 : World} (h : GP m w ps wr) (hb : Below wr.heap.size wr w1) : GP m w ps w1 :=
  ⟨h.len, h.own.below hb, (hb.block _ (Array.getElem?_eq_some_iff.1 h.box).1).trans h.box, bthen h.below hb⟩
theorem GI.after {m : MFunc Sl} {w wg wr : World} {ps : List (Sl Int)} (h : GI m w ps wg) (hk : KeepBut (w.heap.size + 1 + 1) wg wr) (hb : Below w.heap.size w wr) (h0 : 0 < m.blocks.l.length) : GP m w ps wr := by
  have hty : ∃ cur, wg.heap[w.heap.size + 1 + 1]? = some (.cells cur 4 (0, 0)) := by
    rcases h.reached.row.2 with ⟨h3, _⟩ | ⟨g3, c3, cu3, hv3, _, hh3, _⟩
    · simp [Sl.val] at h3
    · simp only [Sl.val, Value.slice.injEq, Option.some.injEq, Addr.mk.injEq] at hv3
      rw [← hv3.1.1] at hh3
      exact ⟨_, hh3⟩
  obtain ⟨cur, hcur⟩ := hty
  have hin : ∀ x, x ∈ ps → Own kI 3 w.heap.size wr x := by
    intro x hx
    refine (h.own.inner x hx).mv fun k hk2 => ?_
    rcases hk2 with hk2 | ⟨y, _, hk2⟩
    · refine hk.block k ((h.own.inner x hx).row.lt k hk2.symm).2 ?_
      rintro rfl
      rcases (h.own.inner x hx).row.2 with ⟨h3, _⟩ | ⟨g3, c3, cu3, hv3, _, hh3, _⟩
      · rw [h3] at hk2; simp [Value.ownBlock] at hk2
      · rw [hv3] at hk2
        simp only [Value.ownBlock, Option.some.injEq] at hk2
        rw [← hk2, hcur] at hh3
        injection hh3 with hh3
        injection hh3 with _ hty
        exact absurd hty (by decide)
    · simp [kI, Kd.scalar] at hk2
  refine ⟨h.len, ⟨⟨⟨h.own.outer.row.1, ?_⟩, h.own.outer.short, fun x hx => (hin x hx).rd, h.own.outer.apart⟩, hin, h.own.pair⟩, (hk.block _ (Array.getElem?_eq_some_iff.1 h.box).1 (by omega)).trans h.box, hb⟩
  rcases h.own.outer.row.2 with h1 | ⟨g, cap, cu, hv, hbb, hh, r⟩
  · exact .inl h1
  · refine .inr ⟨g, cap, cu, hv, hbb, (hk.block g (Array.getElem?_eq_some_iff.1 hh).1 ?_).trans hh, r⟩
    have hv' := hv
    simp only [Sl.val, Value.slice.injEq, Option.some.injEq, Addr.mk.injEq] at hv'
    have := hv'.1.1
    omega
theorem mb_at (m : MFunc Sl) {k : Nat} (h : k < m.blocks.l.length) : m.p.blocks[k]? = some (MBlock.p m.blocks.l[k]) := by simp [MFunc.p, h]
theorem ph_at (x : MBlock Sl) {i : Nat} (h : i < x.phis.l.length) : x.p.phis[i]? = some (Phi.p x.phis.l[i]) := by simp [MBlock.p, h]
theorem fits_at (m : MFunc Sl) (ps : List (Sl Int)) (hps : ps.map Sl.l = predsOf m.p) {k : Nat} (h0 : ¬ k = 0) (h : k < ps.length) (x : Phi List) : phiFits k ((predsOf m.p).getD k []) x = (x.ins.map (·.from_) == ps[k].l) := by
  rw [← hps, getD_l _ _ h]
  unfold phiFits
  simp [h0]
theorem ret3_of {a b c a' b' c' : Int} {w w' : World} (ha : a = a') (hb : b = b') (hc : c = c') (h : Below w.heap.size w w') : Ending.returned (.tuple #[.int .i64 a, .int .i64 b, .int .i64 c]) = .returned (.tuple #[.int .i64 a', .int .i64 b', .int .i64 c']) ∧ Below w.heap.size w w' := by
  subst ha; subst hb; subst hc; exact ⟨rfl, h⟩

set_option maxRecDepth 1000000 in
set_option maxHeartbeats 8000000 in
theorem machGraph (m : MFunc Sl) (w : World) (hm : kMFunc.rd w m) (h0 : 0 < m.blocks.l.length) (hn : m.blocks.l.length ≤ 512) (hto : ∀ b, b ∈ m.blocks.l → ∀ t, t ∈ b.fin.to.l → 1 ≤ t ∧ t < m.blocks.l.length) :
    Calls Try.prog 75 #[m.v] w fun e w' => e = .returned (.tuple #[.int .i64 (graphErr m.p).1, .int .i64 (graphErr m.p).2.1, .int .i64 (graphErr m.p).2.2]) ∧ Below w.heap.size w w' := by
  have hm' := Lib.hid hm
  have hto' := Lib.hid hto
  have h1 := mkPreds m.blocks.l.length hn
  have h2 := mkReached m.blocks.l.length hn
  clear hm hto
  go_enter Try.func75, Try.ntmps75
  go_wp2
  clear h1 h2
  go_loopg [30] (m.blocks.l.length) (fun g i wr => ∃ k : Nat, k ≤ m.blocks.l.length ∧ g = m.blocks.l.length - k ∧ i = .int .i64 k ∧ ∃ ps, GI m w ps wr ∧ predsFrom k ((tosOf m.p).drop k) (ps.map Sl.l) = predsOf m.p ∧ ∀ x, x ∈ ps → x.l.length ≤ k)
  case atStart =>
    refine ⟨0, Nat.zero_le _, rfl, rfl, List.replicate m.blocks.l.length nilSl, ⟨by simp, ?_, ?_, ?_, ?_⟩, ?_, ?_⟩
    · have h := own2_made 38 3 w.heap.size (w.alloc (.cells #[.int .i64 m.params, m.blocks.val] 24)) m.blocks.l.length (by simp) (by omega)
      have h := h.below (bal (Below.refl _ _) (.cells (madeCells #[.bool false] m.blocks.l.length) 4))
      simpa using h
    · have h := own_made (d := kB) .bool rfl (fun _ => rfl) false (fun _ => trivial) rfl 4 w.heap.size ((w.alloc (.cells #[.int .i64 m.params, m.blocks.val] 24)).alloc (.cells (madeCells #[.slice none 0 0] m.blocks.l.length) 38)) m.blocks.l.length (by simp; omega) (by omega)
      simpa using h
    · rw [Below.heap_alloc _ _ _ (by simp; omega), Below.heap_alloc _ _ _ (by simp)]
      exact heap_alloc_new w _
    · exact bal (bal (bal (Below.refl _ _) _) _) _
    · simp [predsOf, tosOf, MFunc.p]
    · intro x hx
      rw [(List.mem_replicate.1 hx).2]
      simp
  case round =>
    obtain ⟨k, hk, hg, rfl, ps, HG, hpr, hle⟩ := hrel
    have HG' := Lib.hid HG
    have hpr' := Lib.hid hpr
    have hle' := Lib.hid hle
    have hgk := Lib.hid hg
    clear HG hpr hle hg
    by_cases hlt : k < m.blocks.l.length
    · have hmb := kMBlock.sl.below hm'.out HG'.out.below
      obtain ⟨b, o, hat, hb, ⟨c0, c1, c2, c3, c4, c5, c6⟩, hrb⟩ := getMBlock 22 65 Try.underlying22 (by kernel_rfl) hmb k hlt rfl
      have hrb' := Lib.hid hrb
      clear hrb hmb
      go_wp2
      clear hat c0 c1 c2 c3 c4 c5 c6
      have hbt := Kd.bound (d := kI) hrb'.out.2.2
      go_loopg [39] (m.blocks.l[k].fin.to.l.length) (fun g i wr => ∃ j : Nat, j ≤ m.blocks.l[k].fin.to.l.length ∧ g = m.blocks.l[k].fin.to.l.length - j ∧ i = .int .i64 j ∧ ∃ ps', GI m w ps' wr ∧ predsFrom (k + 1) ((tosOf m.p).drop (k + 1)) (addTo k (m.blocks.l[k].fin.to.l.drop j) (ps'.map Sl.l)) = predsOf m.p ∧ ∀ x, x ∈ ps' → x.l.length ≤ k ∨ (x.l.length ≤ k + 1 ∧ x.l.contains k = true))
      case atStart =>
        refine ⟨0, Nat.zero_le _, rfl, rfl, ps, HG'.out.go (bal (Below.refl _ _) _), ?_, fun x hx => .inl (hle'.out x hx)⟩
        have h := hpr'.out
        rw [tos_at m hlt] at h
        exact h
      case round =>
        obtain ⟨j, hj, hg, rfl, ps', HG, hpr2, hle2⟩ := hrel
        have HG2 := Lib.hid HG
        have hpr2' := Lib.hid hpr2
        have hle2' := Lib.hid hle2
        have hgj := Lib.hid hg
        clear HG hpr2 hle2 hg HG' hpr' hle'
        by_cases hjt : j < m.blocks.l[k].fin.to.l.length
        · have hm2 := hm'.out
          have hrt := kMBlock.below (kMBlock.sl.below hm2 HG2.out.below |>.2.2.2 _ (List.getElem_mem hlt)) (Below.refl _ _)
          obtain ⟨b1, o1, hat1, hb1, hc1⟩ := getI 38 3 Try.underlying38 (by kernel_rfl) hrt.2.2 j hjt rfl
          have ht := hto'.out _ (List.getElem_mem hlt) _ (List.getElem_mem hjt)
          obtain ⟨t, htn⟩ : ∃ t : Nat, m.blocks.l[k].fin.to.l[j] = (t : Int) := ⟨(m.blocks.l[k].fin.to.l[j]).toNat, by omega⟩
          have htl : t < ps'.length := by rw [HG2.out.len]; omega
          have htl2 : t < m.blocks.l.length := by omega
          rw [htn] at hc1
          obtain ⟨G, hGA, hGb, hGl, hGc, hGf, hGo, _⟩ := HG2.out.own.outer.spot Sl.val rfl (fun _ => rfl) (k := t) htl
          simp only [Option.some.injEq, Addr.mk.injEq] at hGA
          obtain ⟨rfl, _⟩ := hGA
          clear ht hrt hm2 hGo hGb
          have hin := Lib.hid (HG2.out.own.inner _ (List.getElem_mem htl))
          have htn' := Lib.hid htn
          have htl' := Lib.hid htl
          cases hct : ps'[t].l.contains (k : Int) with
          | true =>
            have hct' := Lib.hid hct
            clear hct
            go_wp2_with fail
            refine (containsInt ps'[t] k _ hin.out.rd).mono ?_
            rintro e w1 ⟨rfl, rfl⟩
            rw [hct'.out]
            go_wp2
            go_roundg (m.blocks.l[k].fin.to.l.length - (j + 1))
            case measure => have := hgj.out; omega
            case rel =>
              refine ⟨j + 1, by omega, rfl, by go_num, ps', HG2.out, ?_, hle2'.out⟩
              rw [← addTo_yes k _ j hjt _ t htn'.out _ (getD_l _ _ htl'.out) hct'.out]
              exact hpr2'.out
          | false =>
            have hct' := Lib.hid hct
            clear hct
            go_wp2_with fail
            refine (containsInt ps'[t] k _ hin.out.rd).mono ?_
            rintro e w1 ⟨rfl, rfl⟩
            rw [hct'.out]
            have hmem := Lib.hid (List.getElem_mem htl)
            go_wp2_with (at_builtin; go_must (refine wpList_app kI (by decide) kI_one w.heap.size rfl 38 3 _ _ rfl (.int .i64 0) 8 Try.underlying38 infoI rfl (by decide) _ ps'[t] ⟨some ⟨wr.heap.size, 0, none⟩, 1, [(k : Int)]⟩ rfl rfl (hin.out.below (bal (Below.refl _ _) _)) (own_lit (.int .i64) 3 0 wr [(k : Int)] (by simp) (by simp)).rd (by have := HG2.out.below.size; simp; omega) kI_apart (by have := hle2'.out _ hmem.out; simp only [List.length_singleton]; omega) ?_; intro s' w1 hown hl hg hat; obtain ⟨p1, p2, p3⟩ := (HG2.out.go (bal (Below.refl _ _) _)).put htl'.out s' hown hg hat; have p3' := Lib.hid p3; have hl' := Lib.hid hl; clear p3 hown hl hg hat))
            go_roundg (m.blocks.l[k].fin.to.l.length - (j + 1))
            case measure => have := hgj.out; omega
            case rel =>
              refine ⟨j + 1, by omega, rfl, by go_num, ps'.set t s', p3'.out, ?_, fun x hx => ?_⟩
              · have h := hpr2'.out
                rw [addTo_no k _ j hjt _ t htn'.out _ (getD_l _ _ htl'.out) hct'.out] at h
                rw [List.map_set, hl'.out]
                exact h
              · rcases List.mem_or_eq_of_mem_set hx with hx | rfl
                · exact hle2'.out x hx
                · rw [hl'.out]
                  rcases hle2'.out _ hmem.out with h3 | ⟨_, h3⟩
                  · exact .inr ⟨by simp only [List.length_append, List.length_singleton]; omega, by simp⟩
                  · exact Bool.noConfusion (h3.symm.trans hct'.out)
        · -- the inner loop is through
          have hje : (m.blocks.l[k].fin.to.l).drop j = [] := List.drop_eq_nil_of_le (by omega)
          have hje' := Lib.hid hje
          clear hje
          go_wp2
          go_roundg (m.blocks.l.length - (k + 1))
          case measure => have := hgk.out; omega
          case rel =>
            refine ⟨k + 1, by omega, rfl, by go_num, ps', HG2.out, ?_, fun x hx => ?_⟩
            · have h := hpr2'.out
              rw [hje'.out] at h
              exact h
            · rcases hle2'.out x hx with h3 | ⟨h3, _⟩ <;> omega
    · -- all blocks have been noted
      obtain ⟨wg, rfl⟩ : ∃ wg : World, wg = wr := ⟨wr, rfl⟩
      have hpe := hpr'.out
      rw [tos_end m (by omega)] at hpe
      have hps : ps.map Sl.l = predsOf m.p := hpe
      have hps' := Lib.hid hps
      have hle3' := Lib.hid (fun x hx => Nat.le_trans (hle'.out x hx) hk)
      clear hpe hps hpr' hle' hgk
      obtain ⟨G, hGA, hGb, hGl, hGc, hGf, hGo, hGset⟩ := HG'.out.reached.spot .bool rfl (fun _ => rfl) (k := 0) (by simpa using h0)
      simp only [Option.some.injEq, Addr.mk.injEq] at hGA
      obtain ⟨rfl, _⟩ := hGA
      have hset' := Lib.hid (hGset true trivial (fun q hq => by simp [kB, Kd.scalar] at hq))
      clear hGo hGb hGset
      go_wp2_with fail
      clear hGc hGf
      go_loopg [11] (m.blocks.l.length + 1) (fun g v wr => ∃ r s, v = Sl.val s ∧ GQ m w wg r s wr ∧ cf r + s.l.length ≤ g ∧ bfs (tosOf m.p) g r s.l = reachedOf m.p ∧ cf r + s.l.length ≤ m.blocks.l.length + 1)
      case atStart =>
        refine ⟨(List.replicate m.blocks.l.length false).set 0 true, ⟨some ⟨wg.heap.size, 0, none⟩, 1, [0]⟩, rfl, ⟨?_, ?_, by simp, ?_, ?_, ?_⟩, ?_, ?_, ?_⟩
        · exact ((KeepBut.refl _ _).set 0 _).below (bal (Below.refl _ _) _)
        · have h := Que.ofLit (e := 3) (base := wg.heap.size) (wg.setCell ⟨w.heap.size + 1 + 1, 0, none⟩ (.bool true)) [0] (by simp) (by simp)
          simpa using h
        · exact hset'.out.below (bal (Below.refl _ _) _)
        · exact bal (bset HG'.out.below _ _ (by show _ ≤ w.heap.size + 1 + 1; omega)) _
        · intro x hx; simp at hx; subst hx; omega
        · have h1 := cf_set (List.replicate m.blocks.l.length false) 0 (by simpa using h0) (by simp [List.getD_eq_getElem?_getD, h0])
          have h2 : cf (List.replicate m.blocks.l.length false) = m.blocks.l.length := by simp [cf]
          simp only [List.length_singleton]
          omega
        · unfold reachedOf
          simp [MFunc.p]
        · have h1 := cf_set (List.replicate m.blocks.l.length false) 0 (by simpa using h0) (by simp [List.getD_eq_getElem?_getD, h0])
          have h2 : cf (List.replicate m.blocks.l.length false) = m.blocks.l.length := by simp [cf]
          simp only [List.length_singleton]
          omega
      case round =>
        obtain ⟨gq, rfl⟩ : ∃ gq, gq = gk := ⟨gk, rfl⟩
        obtain ⟨r, s, rfl, HQ, hcf, hbf, hcn⟩ := hrel
        have hcn' := Lib.hid hcn
        have HQ' := Lib.hid HQ
        have hcf' := Lib.hid hcf
        have hbf' := Lib.hid hbf
        have hsb := HQ.que.short
        clear HQ hcf hbf hcn
        rcases hsl : s.l with _ | ⟨x, q⟩
        · -- nothing waits
          have hsl' := Lib.hid hsl
          have d0 : decide (0 < s.l.length) = false := by rw [hsl]; rfl
          clear hsl
          have hr : r = reachedOf m.p := by have h := hbf'.out; rw [hsl'.out, bfs_nil] at h; exact h
          have hr' := Lib.hid hr
          have hc := indexBool ⟨some ⟨w.heap.size + 1 + 1, 0, none⟩, m.blocks.l.length, r⟩ false wr HQ'.out.reached.rd
          rw [show (⟨some ⟨w.heap.size + 1 + 1, 0, none⟩, m.blocks.l.length, r⟩ : Sl Bool).val = .slice (some ⟨w.heap.size + 1 + 1, 0, none⟩) m.blocks.l.length m.blocks.l.length by simp [Sl.val, HQ'.out.len]] at hc
          have hc' := Lib.hid hc
          have hGP := Lib.hid (HG'.out.after HQ'.out.keep HQ'.out.below h0)
          clear hr hc hset'
          go_wp2_with fail
          refine hc'.out.mono ?_
          rintro e w1 ⟨rfl, rfl⟩
          rw [hr'.out]
          obtain ⟨ix, hix⟩ : ∃ ix, ix = idx (fun x => false == x) (reachedOf m.p) := ⟨_, rfl⟩
          rw [← hix]
          have hix' := Lib.hid hix
          clear hix d0
          by_cases hi0 : 0 ≤ ix
          · go_wp2_with fail
            go_ret3
            have e : graphErr m.p = (15, ix, 0) := by unfold graphErr; rw [← hix'.out, if_pos hi0]
            exact ret3_of (by rw [e]) (by rw [e]) (by rw [e]) hGP.out.below
          · have hbox : wr.cell? ⟨w.heap.size, 1, none⟩ = some m.blocks.val := by
              simp [World.cell?, hGP.out.box]
            have hi0' := Lib.hid hi0
            have hi1 : ix < 0 := by omega
            clear hi0
            go_wp2_with fail
            clear hbox
            go_loopg [105] (m.blocks.l.length) (fun g i wr => ∃ k : Nat, k ≤ m.blocks.l.length ∧ g = m.blocks.l.length - k ∧ i = .int .i64 k ∧ GP m w ps wr ∧ badPhis (predsOf m.p) k (m.p.blocks.drop k) = badPhis (predsOf m.p) 0 m.p.blocks)
            case atStart => exact ⟨0, Nat.zero_le _, rfl, rfl, hGP.out, rfl⟩
            case round =>
              obtain ⟨k2, hk2, hg, rfl, HP, hbp⟩ := hrel
              have HP' := Lib.hid HP
              have hbp' := Lib.hid hbp
              have hg' := Lib.hid hg
              clear HP hbp hg hGP HQ' HG' hc' hcf' hbf' hcn'
              by_cases hlt2 : k2 < m.blocks.l.length
              · obtain ⟨b, o, hat, hb, ⟨c0, c1, c2, c3, c4, c5, c6⟩, hrb⟩ := getMBlock 22 65 Try.underlying22 (by kernel_rfl) (kMBlock.sl.below hm'.out HP'.out.below) k2 hlt2 rfl
                have hbph := Kd.bound (d := kPhi) hrb.1
                clear hrb
                go_wp2_with fail
                clear hat c0 c1 c2 c3 c4 c5 c6
                go_loopg [113] (m.blocks.l[k2].phis.l.length) (fun g i wr => ∃ j : Nat, j ≤ m.blocks.l[k2].phis.l.length ∧ g = m.blocks.l[k2].phis.l.length - j ∧ i = .int .i64 j ∧ GP m w ps wr ∧ badPhi k2 ((predsOf m.p).getD k2 []) j (m.blocks.l[k2].p.phis.drop j) = badPhi k2 ((predsOf m.p).getD k2 []) 0 m.blocks.l[k2].p.phis)
                case atStart => exact ⟨0, Nat.zero_le _, rfl, rfl, HP'.out.go (bal (Below.refl _ _) _), rfl⟩
                case round =>
                  obtain ⟨i, hi, hgi, rfl, HP2, hbi⟩ := hrel
                  have HP2' := Lib.hid HP2
                  have hbi' := Lib.hid hbi
                  have hgi' := Lib.hid hgi
                  clear HP2 hbi hgi HP'
                  by_cases hil : i < m.blocks.l[k2].phis.l.length
                  · have hrb := (kMBlock.sl.below hm'.out HP2'.out.below).2.2.2 _ (List.getElem_mem hlt2)
                    obtain ⟨b3, o3, hat3, hb3, hp0, hp1, hrp⟩ := getPhi 62 93 Try.underlying62 (by kernel_rfl) hrb.1 i hil rfl
                    have hrp' := Lib.hid hrp
                    clear hrp hrb
                    by_cases hk0 : k2 = 0
                    · have d1 : ((k2 : Int) == 0) = true := by simp [hk0]
                      have hft' := Lib.hid (show phiFits k2 ((predsOf m.p).getD k2 []) (Phi.p m.blocks.l[k2].phis.l[i]) = false by simp [phiFits, hk0])
                      clear hk0
                      go_wp2_with fail
                      go_quiet (fail)
                      go_wp2_with fail
                      go_ret3
                      have e := graphErr_phi m.p (by rw [← hix'.out]; have := hi0'.out; omega) _ _ (blocks_no _ _ k2 _ (mb_at m hlt2) hbp'.out _ (phis_no k2 _ _ i _ (ph_at _ hil) hbi'.out hft'.out))
                      exact ret3_of (by rw [e]) (by rw [e]) (by rw [e]) (bthen (bal HP2'.out.below _) (bdn _ _))
                    · have d1 : ((k2 : Int) == 0) = false := by simp [hk0]
                      have hk2p : k2 < ps.length := by rw [HP2'.out.len]; exact hlt2
                      obtain ⟨G, hGA, hGb, hGl, hGc, hGf, hGo, _⟩ := HP2'.out.own.outer.spot Sl.val rfl (fun _ => rfl) (k := k2) hk2p
                      simp only [Option.some.injEq, Addr.mk.injEq] at hGA
                      obtain ⟨rfl, _⟩ := hGA
                      have hin := Lib.hid (HP2'.out.own.inner _ (List.getElem_mem hk2p)).rd
                      have hfe' := Lib.hid (fits_at m ps hps'.out hk0 hk2p (Phi.p m.blocks.l[k2].phis.l[i]))
                      have hGlt : w.heap.size + 1 < wr.heap.size := hGl
                      clear hk0 hGo hGb hGl hGf
                      go_wp2_with fail
                      have hk1 := hat3
                      clear hk1 hat3 hp0 hp1
                      have hS1 : ∀ W : World, Below (wr.alloc (.cells #[.int .i64 m.blocks.l[k2].phis.l[i].dst, m.blocks.l[k2].phis.l[i].ins.val] 93)).heap.size (wr.alloc (.cells #[.int .i64 m.blocks.l[k2].phis.l[i].dst, m.blocks.l[k2].phis.l[i].ins.val] 93)) W → W.cell? ⟨wr.heap.size, 1, none⟩ = some m.blocks.l[k2].phis.l[i].ins.val ∧ W.cell? ⟨w.heap.size + 1, k2, none⟩ = some ps[k2].val := by
                        intro W hW
                        have h1 := hW.cell (p := ⟨wr.heap.size, 1, none⟩) (by simp)
                        have h2 := hW.cell (p := ⟨w.heap.size + 1, k2, none⟩) (by show w.heap.size + 1 < _; simp; omega)
                        exact ⟨by rw [h1]; simp, by rw [h2, (show Below wr.heap.size wr _ from bal (Below.refl _ _) _).cell hGlt]; exact hGc⟩
                      have hS1' := Lib.hid hS1
                      clear hS1
                      cases hfx : (m.blocks.l[k2].phis.l[i].ins.l.map (·.from_) == ps[k2].l) with
                      | true =>
                        have hfx' := Lib.hid hfx
                        clear hfx
                        go_region_held3 (fun w' => w'.cell? ⟨wr.heap.size, 1, none⟩ = some m.blocks.l[k2].phis.l[i].ins.val ∧ w'.cell? ⟨w.heap.size + 1, k2, none⟩ = some ps[k2].val) (first | go_keep | exact ⟨by assumption, by assumption⟩) (first | (go_at_call 111; refine (equalFuncIn m.blocks.l[k2].phis.l[i].ins ps[k2] _ (kIn.sl.below hrp'.out (by repeat (first | exact Below.refl _ _ | refine bal ?_ _ | refine Below.drew ?_))) (kI.sl.below hin.out (by repeat (first | exact Below.refl _ _ | refine bal ?_ _ | refine Below.drew ?_)))).mono ?_; rintro e w1 ⟨rfl, hb1⟩; rw [hfx'.out]; have hB := Lib.hid (show Below wr.heap.size wr w1 from by refine bthen ?_ hb1; repeat (first | exact Below.refl _ _ | refine bal ?_ _ | refine Below.drew ?_)); obtain ⟨hS2, hS3⟩ := hS1'.out w1 (by refine bthen ?_ hb1; repeat (first | exact Below.refl _ _ | refine Below.drew ?_)); clear hb1))
                        go_wp2_with fail
                        go_roundg (m.blocks.l[k2].phis.l.length - (i + 1))
                        case measure => have := hgi'.out; omega
                        case rel =>
                          have hft := hfe'.out
                          rw [show (Phi.p m.blocks.l[k2].phis.l[i]).ins.map (·.from_) = m.blocks.l[k2].phis.l[i].ins.l.map (·.from_) from rfl, hfx'.out] at hft
                          exact ⟨i + 1, by omega, rfl, by go_num, HP2'.out.go hB.out, by rw [phis_yes k2 _ _ i _ (ph_at _ hil) hbi'.out hft]⟩
                      | false =>
                        have hfx' := Lib.hid hfx
                        clear hfx
                        go_region_held3 (fun w' => w'.cell? ⟨wr.heap.size, 1, none⟩ = some m.blocks.l[k2].phis.l[i].ins.val ∧ w'.cell? ⟨w.heap.size + 1, k2, none⟩ = some ps[k2].val) (first | go_keep | exact ⟨by assumption, by assumption⟩) (first | (go_at_call 111; refine (equalFuncIn m.blocks.l[k2].phis.l[i].ins ps[k2] _ (kIn.sl.below hrp'.out (by repeat (first | exact Below.refl _ _ | refine bal ?_ _ | refine Below.drew ?_))) (kI.sl.below hin.out (by repeat (first | exact Below.refl _ _ | refine bal ?_ _ | refine Below.drew ?_)))).mono ?_; rintro e w1 ⟨rfl, hb1⟩; rw [hfx'.out]; have hB := Lib.hid (show Below wr.heap.size wr w1 from by refine bthen ?_ hb1; repeat (first | exact Below.refl _ _ | refine bal ?_ _ | refine Below.drew ?_)); obtain ⟨hS2, hS3⟩ := hS1'.out w1 (by refine bthen ?_ hb1; repeat (first | exact Below.refl _ _ | refine Below.drew ?_)); clear hb1))
                        go_wp2_with fail
                        go_ret3
                        have hft := hfe'.out
                        rw [show (Phi.p m.blocks.l[k2].phis.l[i]).ins.map (·.from_) = m.blocks.l[k2].phis.l[i].ins.l.map (·.from_) from rfl, hfx'.out] at hft
                        have e := graphErr_phi m.p (by rw [← hix'.out]; have := hi0'.out; omega) _ _ (blocks_no _ _ k2 _ (mb_at m hlt2) hbp'.out _ (phis_no k2 _ _ i _ (ph_at _ hil) hbi'.out hft))
                        exact ret3_of (by rw [e]) (by rw [e]) (by rw [e]) (bthen HP2'.out.below hB.out)
                  · have hil' := Lib.hid hil
                    go_wp2_with fail
                    go_roundg (m.blocks.l.length - (k2 + 1))
                    case measure => have := hg'.out; omega
                    case rel =>
                      exact ⟨k2 + 1, by omega, rfl, by go_num, HP2'.out, by rw [blocks_yes _ _ k2 _ (mb_at m hlt2) hbp'.out (phis_end k2 _ _ i (by have := hil'.out; simp only [MBlock.p, List.length_map]; omega) hbi'.out)]⟩
              · have hl2' := Lib.hid hlt2
                go_wp2_with fail
                go_ret3
                have e := graphErr_none m.p (by rw [← hix'.out]; have := hi0'.out; omega) (blocks_end _ _ k2 (by show m.p.blocks.length ≤ k2; have := hl2'.out; simp [MFunc.p]; omega) hbp'.out)
                exact ret3_of (by rw [e]) (by rw [e]) (by rw [e]) HP'.out.below
        · have hx := HQ'.out.vals x (by rw [hsl]; exact List.mem_cons_self)
          have hlen : 0 < s.l.length := by rw [hsl]; simp
          have d0 : ((0 : Int) < (s.l.length : Int)) := by omega
          have hs0 : s.l[0] = x := by simp [hsl]
          obtain ⟨b1, o1, hat1, hb1, hc1⟩ := getI 38 3 Try.underlying38 (by kernel_rfl) HQ'.out.que.rd 0 hlen rfl
          rw [hs0] at hc1
          simp only [Nat.add_zero] at hc1 hat1
          obtain ⟨k', hk'⟩ : ∃ k' : Nat, x = (k' : Int) := ⟨x.toNat, by omega⟩
          subst hk'
          have hk'l : k' < m.blocks.l.length := by omega
          obtain ⟨b, o, hat, hb, ⟨c0, c1, c2, c3, c4, c5, c6⟩, hrb⟩ := getMBlock 22 65 Try.underlying22 (by kernel_rfl) (kMBlock.sl.below hm'.out HQ'.out.below) k' hk'l rfl
          have hbox : wr.cell? ⟨w.heap.size, 1, none⟩ = some m.blocks.val := by
            have h := HQ'.out.keep.block w.heap.size (Array.getElem?_eq_some_iff.1 HG'.out.box).1 (by omega)
            simp [World.cell?, h, HG'.out.box]
          have hrb' := Lib.hid hrb
          have hsl' := Lib.hid hsl
          clear hsl hrb hs0 hx c0 c1 c2 c3 c4 c6
          go_wp2_with fail
          go_quiet (fail)
          go_wp2_with fail
          clear hat hat1 hc1 c5 hbox d0
          have hbt := Kd.bound (d := kI) hrb'.out.2.2
          go_loopg [11, 80] (m.blocks.l[k'].fin.to.l.length) (fun g v i wr1 => ∃ j : Nat, j ≤ m.blocks.l[k'].fin.to.l.length ∧ g = m.blocks.l[k'].fin.to.l.length - j ∧ i = .int .i64 j ∧ ∃ r1 s1, v = Sl.val s1 ∧ GQ m w wg r1 s1 wr1 ∧ visit (m.blocks.l[k'].fin.to.l.drop j) r1 s1.l = visit m.blocks.l[k'].fin.to.l r s.l ∧ cf r1 + s1.l.length = cf r + s.l.length ∧ 1 ≤ s1.l.length)
          case atStart => exact ⟨0, Nat.zero_le _, rfl, rfl, r, s, rfl, HQ'.out.go (bdn _ _), rfl, rfl, hlen⟩
          case round =>
            obtain ⟨j, hj, hg, rfl, r1, s1, rfl, HQ1, hvi, hcf1, hl1⟩ := hrel
            have HQ1' := Lib.hid HQ1
            have hvi' := Lib.hid hvi
            have hcf1' := Lib.hid hcf1
            have hl1' := Lib.hid hl1
            have hgj := Lib.hid hg
            have hsb1 := HQ1.que.short
            clear HQ1 hvi hcf1 hg
            by_cases hjt : j < m.blocks.l[k'].fin.to.l.length
            · have hrt := (kMBlock.sl.below hm'.out HQ1'.out.below).2.2.2 _ (List.getElem_mem hk'l)
              obtain ⟨b2, o2, hat2, hb2, hc2⟩ := getI 38 3 Try.underlying38 (by kernel_rfl) hrt.2.2 j hjt rfl
              have ht := hto'.out _ (List.getElem_mem hk'l) _ (List.getElem_mem hjt)
              obtain ⟨t, htn⟩ : ∃ t : Nat, m.blocks.l[k'].fin.to.l[j] = (t : Int) := ⟨(m.blocks.l[k'].fin.to.l[j]).toNat, by omega⟩
              have htl2 : t < m.blocks.l.length := by omega
              rw [htn] at hc2
              have htn' := Lib.hid htn
              obtain ⟨hrc, hrf, hmk⟩ := HQ1'.out.mark htl2
              have hmk' := Lib.hid hmk
              clear hmk ht htn hrt
              cases hr1 : r1.getD t false with
              | true =>
                rw [hr1] at hrc
                have hr1' := Lib.hid hr1
                clear hr1
                go_wp2_with fail
                go_roundg (m.blocks.l[k'].fin.to.l.length - (j + 1))
                case measure => have := hgj.out; omega
                case rel => exact ⟨j + 1, by omega, rfl, by go_num, r1, s1, rfl, HQ1'.out, by rw [← visit_yes _ j hjt r1 s1.l t htn'.out hr1'.out]; exact hvi'.out, hcf1'.out, hl1'.out⟩
              | false =>
                rw [hr1] at hrc
                have hr1' := Lib.hid hr1
                clear hr1
                go_wp2_with (at_builtin; refine wpList_appQ wg.heap.size rfl 38 3 _ _ rfl Try.underlying38 infoI _ s1 ⟨some ⟨wr.heap.size, 0, none⟩, 1, [(t : Int)]⟩ (t : Int) rfl rfl rfl (hmk'.out.go (bal (Below.refl _ _) _)).que (one_rd _ _ _ _ (by simp)) (by have := HQ1'.out.keep.size; simp; omega) (by have := hcf1'.out; have := hcn'.out; omega) ?_; intro s' w1 hown hl hg hat; have hl' := Lib.hid hl; have hp' := Lib.hid ((hmk'.out.go (bal (Below.refl _ _) _)).push htl2 hown hl hg (by have := HG'.out.below.size; omega)); clear hown hl hg hat)
                go_roundg (m.blocks.l[k'].fin.to.l.length - (j + 1))
                case measure => have := hgj.out; omega
                case rel =>
                  refine ⟨j + 1, by omega, rfl, by go_num, r1.set t true, s', rfl, hp'.out, ?_, ?_, ?_⟩
                  · rw [hl'.out, ← visit_no _ j hjt r1 s1.l t htn'.out hr1'.out]; exact hvi'.out
                  · have h1 := cf_set r1 t (by rw [HQ1'.out.len]; exact htl2) hr1'.out
                    have h2 := hcf1'.out
                    rw [hl'.out]
                    simp only [List.length_append, List.length_singleton]
                    omega
                  · rw [hl'.out]; simp
            · -- all targets have been seen: left = left[1:]
              have hje := Lib.hid (List.drop_eq_nil_of_le (show m.blocks.l[k'].fin.to.l.length ≤ j by omega))
              have htl := run_tail (P := Try.prog) 38 3 Try.underlying38 (by kernel_rfl) s1 hl1'.out HQ1'.out.que.fits
              go_wp2_with fail
              clear htl
              obtain ⟨g', hgq⟩ : ∃ g', gq = g' + 1 := ⟨gq - 1, by have := hcf'.out; omega⟩
              have hgq' := Lib.hid hgq
              clear hgq
              go_roundg g'
              case measure => have := hgq'.out; omega
              case rel =>
                have h1 := hbf'.out
                have h2 := hvi'.out
                rw [hje.out] at h2
                have h2 : (r1, s1.l) = visit m.blocks.l[k'].fin.to.l r s.l := h2
                have hto2 : (tosOf m.p).getD k' [] = m.blocks.l[k'].fin.to.l := by
                  simp [tosOf, MFunc.p, List.getD_eq_getElem?_getD, hk'l, MBlock.p, End.p]
                rw [hgq'.out, hsl'.out, bfs_cons, Int.toNat_natCast, hto2, ← hsl'.out, ← h2] at h1
                have h3 := hcf1'.out
                have h4 := hcf'.out
                have h5 := hcn'.out
                have h6 := hgq'.out
                refine ⟨r1, s1.tl, rfl, ⟨HQ1'.out.keep, HQ1'.out.que.tail hl1'.out, HQ1'.out.len, HQ1'.out.reached, HQ1'.out.below, fun y hy => HQ1'.out.vals y (List.mem_of_mem_tail hy)⟩, ?_, h1, ?_⟩
                · rw [Que.tl_l, List.length_tail]; omega
                · rw [Que.tl_l, List.length_tail]; omega
end Go.Proofs.Ytjlehpgfhlkjlaa
