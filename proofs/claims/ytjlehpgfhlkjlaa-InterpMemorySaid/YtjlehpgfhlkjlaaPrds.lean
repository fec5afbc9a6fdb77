/-
  graph.Preds.
-/
import Derived.Test.YtjlehpgfhlkjlaaEdge
import Derived.Test.YtjlehpgfhlkjlaaRound
import Derived.Test.YtjlehpgfhlkjlaaEv
set_option linter.all false
namespace Jq
open Go Go.RowKit
theorem Own2.keep {e2 e : TypeId} {base : Nat} {W W1 : World} {t : Sl (Sl Int)} (h : Own2 e2 e base W t) (hb : ∀ (k : Nat) (cs : Array Value) (T : TypeId), W.heap[k]? = some (Obj.cells cs T (0, 0)) → W1.heap[k]? = W.heap[k]?) : Own2 e2 e base W1 t := by
  refine ⟨h.outer.mv fun k hk => ?_, fun x hx => (h.inner x hx).mv fun k hk => ?_, h.pair⟩
  · rcases hk with hk | ⟨x, hx, hk⟩
    · obtain ⟨_, cs, hc⟩ := own_blk h.outer hk
      exact hb k cs _ hc
    · obtain ⟨_, cs, hc⟩ := own_blk (h.inner x hx) (fpI hk)
      exact hb k cs _ hc
  · rcases hk with hk | ⟨y, _, hk⟩
    · obtain ⟨_, cs, hc⟩ := own_blk (h.inner x hx) hk
      exact hb k cs _ hc
    · simp [kI, Kd.scalar] at hk
/-- What the loop of Preds keeps. -/
structure PS (e2 e e3 n g gb : Nat) (w0 : World) (pre : List (Int × Int)) (ps : List (Sl Int)) (W : World) : Prop where
  len : ps.length = n
  own : Own2 e2 e w0.heap.size W ⟨some ⟨g, 0, none⟩, n, ps⟩
  rows : ps.map Sl.l = pre.foldl prsE (List.replicate n [])
  box : W.heap[gb]? = some (.cells #[.slice (some ⟨g, 0, none⟩) n n] e3 (0, 0))
  below : Below w0.heap.size w0 W
theorem PS.keep {e2 e e3 n g gb : Nat} {w0 : World} {pre : List (Int × Int)} {ps : List (Sl Int)} {W W1 : World} (h : PS e2 e e3 n g gb w0 pre ps W) (hb : ∀ (k : Nat) (cs : Array Value) (T : TypeId), W.heap[k]? = some (Obj.cells cs T (0, 0)) → W1.heap[k]? = W.heap[k]?) (hB : Below w0.heap.size w0 W1) : PS e2 e e3 n g gb w0 pre ps W1 :=
  ⟨h.len, h.own.keep hb, h.rows, (hb _ _ _ h.box).trans h.box, hB⟩
theorem PS.go {e2 e e3 n g gb : Nat} {w0 : World} {pre : List (Int × Int)} {ps : List (Sl Int)} {W W1 : World} (h : PS e2 e e3 n g gb w0 pre ps W) (hb : Below W.heap.size W W1) : PS e2 e e3 n g gb w0 pre ps W1 :=
  h.keep (fun k cs T hk => hb.block k (lt_of_block hk)) (bthen h.below hb)
/-- The cells of a row of rows. -/
theorem own2_cell {e2 e base g n : Nat} {W : World} {ps : List (Sl Int)} (h : Own2 e2 e base W ⟨some ⟨g, 0, none⟩, n, ps⟩) (hl : ps.length = n) (j : Nat) : W.cell? ⟨g, j, none⟩ = (ps.map Sl.val)[j]? := by
  have hr0 := h.outer.row
  rw [flat_c (d := kI.sl) (c := Sl.val) (fun _ => rfl)] at hr0
  rcases hr0.2 with ⟨h1, h2⟩ | ⟨g1, cap, cur, hv, hb, hh, h1, h2, h3, h4⟩
  · simp [Sl.val] at h1
  · simp only [Sl.val, Value.slice.injEq, Option.some.injEq, Addr.mk.injEq] at hv
    obtain ⟨⟨rfl, _⟩, _, rfl⟩ := hv
    have e1 : kI.sl.sz = 1 := rfl
    rw [e1, Nat.mul_one] at h3 h4
    have e2 : cur.toList = ps.map Sl.val := by
      rw [← h4]
      symm
      exact List.take_of_length_le (by simp [h3, hl])
    simp only [World.cell?, hh]
    rw [← Array.getElem?_toList, e2]
    simp
/-- A row has been appended to, and stored. -/
theorem PS.put {e2 e e3 n g gb : Nat} {w0 : World} {pre : List (Int × Int)} {ps : List (Sl Int)} {W wz w1 : World} (h : PS e2 e e3 n g gb w0 pre ps W) (hne : e2 ≠ e) (hne3 : e3 ≠ e) (hgg : gb ≠ g) (hg0 : w0.heap.size ≤ g) {k : Nat} (hk : k < ps.length) {s' : Sl Int} {a : Int} (hz : Below W.heap.size W wz)
    (hg : wz.grownBy w1 ps[k].val.ownBlock) (hown : Jq.Own kI e w0.heap.size w1 s') (hl : s'.l = ps[k].l ++ [a]) (hat : s'.val.ownBlock = ps[k].val.ownBlock ∨ s'.val.ownBlock = some wz.heap.size) :
    w1.cell? ⟨g, k, none⟩ = some ps[k].val ∧ w1.frozen? ⟨g, k, none⟩ = false ∧ KeepsOthers W (w1.setCell ⟨g, k, none⟩ s'.val) ∧ KpO g W (w1.setCell ⟨g, k, none⟩ s'.val) ∧ PS e2 e e3 n g gb w0 (pre ++ [(a, (k : Int))]) (ps.set k s') (w1.setCell ⟨g, k, none⟩ s'.val) := by
  have hzP := h.go hz
  obtain ⟨G, hA, hb, hlt, hc, hf, hob, h2⟩ := hzP.own.put hne (k := k) hk hown hg hat
  simp only [Option.some.injEq, Addr.mk.injEq] at hA
  obtain ⟨rfl, _⟩ := hA
  have hm : ps[k] ∈ ps := List.getElem_mem hk
  have hrow : ∀ q, some q = ps[k].val.ownBlock → w0.heap.size ≤ q ∧ (∃ cs, W.heap[q]? = some (.cells cs e (0, 0))) ∧ (∃ cs, wz.heap[q]? = some (.cells cs e (0, 0))) := fun q hq => by
    obtain ⟨h3, h4⟩ := own_blk (h.own.inner _ hm) hq
    exact ⟨h3, h4, (own_blk (hzP.own.inner _ hm) hq).2⟩
  have hsame : ∀ q, q ≠ g → q < W.heap.size → some q ≠ ps[k].val.ownBlock → (w1.setCell ⟨g, k, none⟩ s'.val).heap[q]? = W.heap[q]? := fun q h3 h4 h5 =>
    (Below.heap_setCell _ _ _ _ h3).trans ((hg.block q (Nat.lt_of_lt_of_le h4 hz.size) h5).trans (hz.block q h4))
  have hlen' : (ps.set k s').length = n := by simpa using h.len
  refine ⟨hc, hf, ?_, ⟨?_, ?_, ?_⟩, ⟨hlen', h2, ?_, ?_, ?_⟩⟩
  · refine ((⟨hz.size, fun q o hq _ => (hz.block q (lt_of_block hq)).trans hq⟩ : KeepsOthers W wz).trans (KeepsOthers.of_grownBy hg fun j o hj ho => ?_)).trans (KeepsOthers.setCell _ _ _)
    obtain ⟨_, _, cs, h4⟩ := hrow j hj.symm
    rw [h4] at ho
    injection ho with ho
    subst ho
    rfl
  · have := hz.size
    have := hg.size
    simp [World.setCell]
    omega
  · intro q o hq ho hqg hnr
    refine (hsame q hqg (lt_of_block hq) fun e1 => hnr ?_).trans hq
    have hcell := own2_cell h.own h.len k
    rw [List.getElem?_map, List.getElem?_eq_getElem hk, Option.map_some] at hcell
    cases hAA : ps[k].A with
    | none => simp [Sl.val, hAA, Value.ownBlock] at e1
    | some A =>
      refine ⟨k, A, ps[k].l.length, ps[k].cap, by rw [hcell]; simp [Sl.val, hAA], ?_⟩
      simp [Sl.val, hAA, Value.ownBlock] at e1
      exact e1.symm
  · rintro q ⟨j, A, m, c, hcell, rfl⟩
    rw [own2_cell h2 hlen' j, List.getElem?_map] at hcell
    by_cases hjk : j = k
    · subst hjk
      rw [List.getElem?_eq_getElem (by simpa using hk), Option.map_some, List.getElem_set_self] at hcell
      injection hcell with hcell
      have hob2 : s'.val.ownBlock = some A.block := by rw [hcell]; rfl
      rcases hat with hat | hat
      · left
        rw [hob2] at hat
        have hcell2 := own2_cell h.own h.len j
        rw [List.getElem?_map, List.getElem?_eq_getElem hk, Option.map_some] at hcell2
        cases hAA : ps[j].A with
        | none => simp [Sl.val, hAA, Value.ownBlock] at hat
        | some A2 =>
          refine ⟨j, A2, ps[j].l.length, ps[j].cap, by rw [hcell2]; simp [Sl.val, hAA], ?_⟩
          simp [Sl.val, hAA, Value.ownBlock] at hat
          exact hat.symm
      · right
        rw [hob2] at hat
        injection hat with hat
        rw [hat]
        exact hz.size
    · left
      have hcell2 := own2_cell h.own h.len j
      rw [List.getElem?_set_ne (fun e => hjk e.symm), ← List.getElem?_map, ← hcell2] at hcell
      exact ⟨j, A, m, c, hcell, rfl⟩
  · rw [List.foldl_append, ← h.rows, List.map_set, hl]
    simp only [List.foldl_cons, List.foldl_nil, prsE, Int.toNat_natCast]
    apply List.ext_getElem?
    intro i
    rw [List.getElem?_set, List.getElem?_modify]
    by_cases hik : k = i
    · subst hik
      simp [hk]
    · simp [hik]
  · refine (hsame gb hgg (lt_of_block h.box) fun e1 => ?_).trans h.box
    obtain ⟨_, ⟨cs, h4⟩, _⟩ := hrow gb e1
    rw [h.box] at h4
    injection h4 with h4
    injection h4 with _ h5
    exact hne3 h5
  · exact bset ((bthen h.below hz).grown hg (bthen h.below hz).size fun q hq => (hrow q hq.symm).1) _ _ hg0
end Jq
namespace Go.Proofs.Ytjlehpgfhlkjlaa
open Go.RowKit Go.Shelf Jq
attribute [local go_sem] Oper.semAt_some
set_option linter.unusedVariables false
set_option maxRecDepth 100000 in
set_option maxHeartbeats 2000000 in
/-- 'graph.Preds'. -/
theorem grPreds (s : Sl (Sl Int)) (w : World) (hs : kI.sl.sl.rd w s) (h512 : s.l.length ≤ 512) (h8 : ∀ x, x ∈ s.l → x.l.length * 8 ≤ 140737488355328) (hE : (edgesOf 0 ((s.l.map Sl.l).map (keptOf s.l.length))).length * 8 ≤ 140737488355320) :
    Calls Try.prog 144 #[s.val] w (RetSl2 w (prsOf ((s.l.map Sl.l).map (keptOf s.l.length)))) := by
  obtain ⟨R, hR⟩ : ∃ R, R = prsOf ((s.l.map Sl.l).map (keptOf s.l.length)) := ⟨_, rfl⟩
  rw [← hR]
  have hR' := Lib.hid hR
  clear hR
  refine (callsIn_wide (n := 3)).1 ?_
  have hF : Fence.wide.fn 144 := trivial
  have hmk := mkPreds s.l.length h512
  have hs' := Lib.hid hs
  have h8' := Lib.hid h8
  clear hs h8
  refine callsIn_of_wp_marks Try.func144 rfl hF ?_ rfl
  simp only [Try.ntmps144, List.size_toArray, List.length_cons, List.length_nil, Nat.reduceAdd, Nat.reduceSub, Array.replicate_succ, Array.replicate_zero, List.push_toArray, List.append_toArray, List.nil_append, List.cons_append]
  gi_wp2_with fail
  refine ⟨trivial, ?_⟩
  refine (callsIn_wide.2 (grEdges s _)).mono ?_
  rintro e w1 ⟨rfl, rfl⟩
  gi_wp2_with fail
  obtain ⟨W0, hW0⟩ : ∃ W0, W0 = ((w.alloc (.cells (madeCells #[.slice none 0 0] s.l.length) 38)).alloc (.cells #[.slice (some ⟨w.heap.size, 0, none⟩) s.l.length s.l.length] 146)).alloc (.cells #[s.val] 146) := ⟨_, rfl⟩
  have hP0 : PS 38 3 146 s.l.length w.heap.size (w.heap.size + 1) w [] (List.replicate s.l.length nilSl) W0 := by
    subst hW0
    refine ⟨by simp, ((own2_made _ _ _ w s.l.length (Nat.le_refl _) (by omega)).below (bal (Below.refl _ _) _)).below (bal (Below.refl _ _) _), by simp, ?_, bal (bal (bal (Below.refl _ _) _) _) _⟩
    rw [Below.heap_alloc _ _ _ (by simp)]
    exact ask_last _ _ _ (by simp)
  have hs0 : W0.heap.size = w.heap.size + 3 := by subst hW0; simp
  have hc0 : W0.cell? ⟨w.heap.size + 1 + 1, 0, none⟩ = some s.val := by
    subst hW0
    have h : ((((w.alloc (.cells (madeCells #[.slice none 0 0] s.l.length) 38)).alloc (.cells #[.slice (some ⟨w.heap.size, 0, none⟩) s.l.length s.l.length] 146)).alloc (.cells #[s.val] 146)).heap[w.heap.size + 1 + 1]? = some (.cells #[s.val] 146)) := ask_last _ _ _ (by simp)
    simp only [World.cell?, h]
    rfl
  have hro0 : ∀ k, ¬ rowBk w.heap.size W0 k := by
    rintro k ⟨j, A, n, c, hc, hA⟩
    subst hW0
    have h : ((((w.alloc (.cells (madeCells #[.slice none 0 0] s.l.length) 38)).alloc (.cells #[.slice (some ⟨w.heap.size, 0, none⟩) s.l.length s.l.length] 146)).alloc (.cells #[s.val] 146)).heap[w.heap.size]? = some (.cells (madeCells #[.slice none 0 0] s.l.length) 38)) := by
      rw [Below.heap_alloc _ _ _ (by simp; omega), Below.heap_alloc _ _ _ (by simp)]
      exact heap_alloc_new _ _
    simp only [World.cell?, h] at hc
    have hm : (madeCells #[Value.slice none 0 0] s.l.length)[j]? = some (Value.slice (some A) n c) := by simpa using hc
    have h2 : Value.slice (some A) n c ∈ (madeCells #[Value.slice none 0 0] s.l.length).toList := by
      rw [← Array.getElem?_toList] at hm
      exact List.mem_of_getElem? hm
    rw [toList_madeCells_one] at h2
    have := (List.mem_replicate.1 h2).2
    simp at this
  have hB0 : Below w.heap.size w W0 := hP0.below
  rw [← hW0]
  clear hW0
  have hsW := Lib.hid (kI.sl.sl.below hs'.out hB0)
  refine wpIn_rangeFunc_ownF rfl (by omega) (gf := 160) (lb := #[.pointer (some ⟨w.heap.size + 1 + 1, 0, none⟩)]) rfl trivial (enters_of Try.func160 (by kernel_rfl) rfl)
    (α := EdgeT s.l.length) (encs := fun x => #[.int .i64 x.1.1, .int .i64 x.1.2]) (Kp := KpO w.heap.size) (S := fun xs => xs.map (·.1) = edgesOf 0 ((s.l.map Sl.l).map (keptOf s.l.length))) (Sp := fun _ => True) (N := (edgesOf 0 ((s.l.map Sl.l).map (keptOf s.l.length))).length) (w0 := W0)
    (fun l J Jx W hW hJ hJx hY h0 => grEdges1 _ l _ w.heap.size _ s J Jx W (kI.sl.sl.below hsW.out hW) h512 h8'.out (Nat.le_refl _) hY (by rw [← hc0]; simp only [World.cell?, hW.block (w.heap.size + 1 + 1) (by omega)]) (by have := hW.size; omega) (fun k hr => hro0 k (by obtain ⟨j, A, n, c, hc, hA⟩ := hr; exact ⟨j, A, n, c, by rw [← hc]; simp only [World.cell?, hW.block w.heap.size (by omega)], hA⟩)) h0 hJ)
    (fun h k => h.trans k) (fun W l o o' hl h1 h2 _ => KpO.put W l o o' h1 h2 (by omega)) (Below.refl _ _) (fun _ => rfl)
    (fun pre W => ∃ ps, PS 38 3 146 s.l.length w.heap.size (w.heap.size + 1) w (pre.map (·.1)) ps W) (fun _ _ _ => False)
    (fun pre A B row hp hg hr => ?hI) (fun _ _ _ _ _ hs _ _ => hs) ⟨_, hP0⟩
    (fun x => { tmps := #[s.val, undef, .slice none 0 0, .pointer (some ⟨w.heap.size + 1, 0, none⟩), .int .i64 x.1.1, .int .i64 x.1.2, s.val, .int .i64 s.l.length, .slice (some ⟨w.heap.size, 0, none⟩) s.l.length s.l.length, s.val, .func (.func 160) #[] #[.pointer (some ⟨w.heap.size + 1 + 1, 0, none⟩)], .int .i64 x.1.1, .int .i64 x.1.2, undef, undef, undef, undef, undef, undef, undef, undef, undef, undef, undef], defers := [] }) ?assign ?body ?done ?stop
  case hI =>
    obtain ⟨ps, hp⟩ := hp
    refine ⟨ps, hp.keep (fun k cs T hk => hg.block k (lt_of_block hk) fun e => ?_) (hp.below.grown hg hp.below.size fun q hq => by have := (hr q hq).1; omega)⟩
    obtain ⟨_, o, ho, hoc⟩ := hr k e.symm
    rw [hk] at ho
    injection ho with ho
    subst ho
    simp [Obj.isCells] at hoc
  case assign =>
    intro l x W K hK
    gi_wp2
    exact hK
  case body =>
    rintro l pre ⟨⟨ea, eb⟩, hb1, hb2⟩ W ⟨ps, hP⟩ hlen
    obtain ⟨k, rfl⟩ : ∃ k : Nat, eb = (k : Int) := ⟨eb.toNat, by omega⟩
    have hkn : k < s.l.length := by simpa using hb2
    have hkp : k < ps.length := by rw [hP.len]; exact hkn
    have hbx : W.cell? ⟨w.heap.size + 1, 0, none⟩ = some (.slice (some ⟨w.heap.size, 0, none⟩) s.l.length s.l.length) := by simp [World.cell?, hP.box]
    have hix : ∀ V : World, (Instr.indexAt 146 (.slice (some ⟨w.heap.size, 0, none⟩) s.l.length s.l.length) (.int .i64 (k : Int))).run Try.prog V = .ok (.pointer (some ⟨w.heap.size, k, none⟩)) V := fun V => by
      have h := Kd.run_index (P := Try.prog) 146 38 Try.underlying146 (⟨some ⟨w.heap.size, 0, none⟩, s.l.length, ps⟩ : Sl (Sl Int)) w.heap.size 0 1 rfl (by kernel_rfl) (k : Int) k rfl hkp V
      simpa [Sl.val, hP.len] using h
    have hcr : W.cell? ⟨w.heap.size, k, none⟩ = some ps[k].val := by
      obtain ⟨g9, h1, _, _, h2, _⟩ := hP.own.outer.spot Sl.val rfl (fun _ => rfl) (k := k) hkp
      simp only [Option.some.injEq, Addr.mk.injEq] at h1
      obtain ⟨rfl, _⟩ := h1
      exact h2
    have hA : ∀ q, q < W.heap.size → (W.alloc (.cells #[.int .i64 ea] 3)).heap[q]? = W.heap[q]? := fun q hq => Below.heap_alloc _ _ _ hq
    have hgW : w.heap.size + 1 < W.heap.size := lt_of_block hP.box
    have hbx2 : (W.alloc (.cells #[.int .i64 ea] 3)).cell? ⟨w.heap.size + 1, 0, none⟩ = some (.slice (some ⟨w.heap.size, 0, none⟩) s.l.length s.l.length) := by rw [← hbx]; simp only [World.cell?, hA _ hgW]
    have hcr2 : (W.alloc (.cells #[.int .i64 ea] 3)).cell? ⟨w.heap.size, k, none⟩ = some ps[k].val := by rw [← hcr]; simp only [World.cell?, hA w.heap.size (by omega)]
    have hrl := Lib.hid (show ps[k].l.length ≤ pre.length by
      have h := congrArg (fun l => (l.getD k []).length) hP.rows
      have h2 := prs_le (pre.map (·.1)) (List.replicate s.l.length []) k 0 (by simp [List.getD_eq_getElem?_getD, List.getElem?_replicate, hkn])
      rw [← hP.rows, getD_l ps k hkp] at h2
      simpa using h2)
    have hzB := Lib.hid (show Below W.heap.size W (W.alloc (.cells #[.int .i64 ea] 3)).drew from (bal (Below.refl _ _) _).drew)
    have hlit := Lib.hid (show kI.sl.rd (W.alloc (.cells #[.int .i64 ea] 3)).drew ⟨some ⟨W.heap.size, 0, none⟩, 1, [ea]⟩ from kI.sl.below (own_lit (.int .i64) 3 0 W [ea] (by simp) (by simp)).rd (Below.refl _ _).drew)
    have hinn := Lib.hid (hP.own.inner _ (List.getElem_mem hkp))
    have hP' := Lib.hid hP
    have hlen' := Lib.hid hlen
    clear hA
    clear hP hlen
    refine wpIn_block ?_
    refine region_round (by kernel_rfl) (by rintro ⟨a, w, h⟩; exact h) (by kernel_rfl) ?_
    refine wpAny_take (i := 1) (v := .int .i64 (k : Int)) rfl (by kernel_rfl) (by kernel_rfl) (by kernel_rfl) (fun _ _ _ h => h) (Or.inl ⟨by rfl, by (intro w'; go_simp)⟩) ?_
    refine wpAny_take (i := 3) (v := .int .i64 (k : Int)) rfl (by kernel_rfl) (by kernel_rfl) (by kernel_rfl) (fun _ _ _ h => h) (Or.inl ⟨by rfl, by (intro w'; go_simp)⟩) ?_
    refine wpAny_take (i := 6) (v := .int .i64 ea) rfl (by kernel_rfl) (by kernel_rfl) (by kernel_rfl) (fun _ _ _ h => h) (Or.inl ⟨by rfl, by (intro w'; go_simp)⟩) ?_
    refine wpAny_ready (rs := [0, 2, 7]) (by kernel_rfl) (by simp) (AllReady.cons rfl (fun K hK => ?_) (AllReady.cons rfl (fun K hK => ?_) (AllReady.cons rfl (fun K hK => ?_) AllReady.nil)))
    · go_simp
      refine hK _ _ ?_
      clear hK K
      refine wpAny_ready (rs := [2, 7]) (by kernel_rfl) (by simp) (AllReady.cons rfl (fun K hK => ?_) (AllReady.cons rfl (fun K hK => ?_) AllReady.nil))
      · go_simp
        refine hK _ _ ?_
        clear hK K
        refine wpAny_take (i := 4) (v := .pointer (some ⟨w.heap.size, k, none⟩)) rfl (by kernel_rfl) (by kernel_rfl) (by kernel_rfl) (fun _ _ _ h => h) (Or.inl ⟨by rfl, by (intro w'; go_simp)⟩) ?_
        refine wpAny_ready (rs := [5, 7]) (by kernel_rfl) (by simp) (AllReady.cons rfl (fun K hK => ?_) (AllReady.cons rfl (fun K hK => ?_) AllReady.nil))
        · go_simp
          refine hK _ _ ?_
          clear hK K
          refine wpAny_ready (rs := [7]) (by kernel_rfl) (by simp) (AllReady.cons rfl (fun K hK => ?_) AllReady.nil)
          · go_simp
            refine hK _ _ ?_
            clear hK K
            refine wpAny_ready (rs := [8]) (by kernel_rfl) (by simp) (AllReady.cons rfl (fun K hK => ?_) AllReady.nil)
            · refine step_app kI (by decide) kI_one w.heap.size rfl 38 3 _ _ rfl (.int .i64 0) 8 Try.underlying38 infoI rfl (by decide) _ ps[k] ⟨some ⟨W.heap.size, 0, none⟩, 1, [ea]⟩ rfl rfl (hinn.out.below hzB.out) hlit.out (by simp; omega) kI_apart (by have := hrl.out; have := hlen'.out; simp only [List.length_singleton]; omega) ?_
              intro s' w1 hown hl hg hat
              obtain ⟨q1, q2, q3, q4, q5⟩ := hP'.out.put (by decide) (by decide) (by omega) (Nat.le_refl _) hkp hzB.out hg hown hl hat
              have q0 : w1.cell? ⟨w.heap.size + 1, 0, none⟩ = some (.slice (some ⟨w.heap.size, 0, none⟩) s.l.length s.l.length) := by
                have hx := q5.box
                rw [Below.heap_setCell _ _ _ _ (by simp)] at hx
                simp [World.cell?, hx]
              have q3' := Lib.hid q3
              have q4' := Lib.hid q4
              have q5' := Lib.hid q5
              clear hown hl hg hat q3 q4 q5
              refine hK _ _ ?_
              clear hK K
              refine wpAny_ready (rs := [9]) (by kernel_rfl) (by simp) (AllReady.cons rfl (fun K hK => ?_) AllReady.nil)
              · go_simp
                refine hK _ _ ?_
                clear hK K
                refine wpAny_ready (rs := [10]) (by kernel_rfl) (by simp) (AllReady.cons rfl (fun K hK => ?_) AllReady.nil)
                · go_simp
                  refine hK _ _ ?_
                  clear hK K
                  refine wpAny_done (by kernel_rfl) ?_ _
                  exact ⟨q3'.out, q4'.out, _, by rw [List.map_append]; exact q5'.out⟩
        · go_simp
          refine hK _ _ ?_
          clear hK K
          refine wpAny_ready (rs := [5]) (by kernel_rfl) (by simp) (AllReady.cons rfl (fun K hK => ?_) AllReady.nil)
          · go_simp
            refine hK _ _ ?_
            clear hK K
            refine wpAny_ready (rs := [8]) (by kernel_rfl) (by simp) (AllReady.cons rfl (fun K hK => ?_) AllReady.nil)
            · refine step_app kI (by decide) kI_one w.heap.size rfl 38 3 _ _ rfl (.int .i64 0) 8 Try.underlying38 infoI rfl (by decide) _ ps[k] ⟨some ⟨W.heap.size, 0, none⟩, 1, [ea]⟩ rfl rfl (hinn.out.below hzB.out) hlit.out (by simp; omega) kI_apart (by have := hrl.out; have := hlen'.out; simp only [List.length_singleton]; omega) ?_
              intro s' w1 hown hl hg hat
              obtain ⟨q1, q2, q3, q4, q5⟩ := hP'.out.put (by decide) (by decide) (by omega) (Nat.le_refl _) hkp hzB.out hg hown hl hat
              have q0 : w1.cell? ⟨w.heap.size + 1, 0, none⟩ = some (.slice (some ⟨w.heap.size, 0, none⟩) s.l.length s.l.length) := by
                have hx := q5.box
                rw [Below.heap_setCell _ _ _ _ (by simp)] at hx
                simp [World.cell?, hx]
              have q3' := Lib.hid q3
              have q4' := Lib.hid q4
              have q5' := Lib.hid q5
              clear hown hl hg hat q3 q4 q5
              refine hK _ _ ?_
              clear hK K
              refine wpAny_ready (rs := [9]) (by kernel_rfl) (by simp) (AllReady.cons rfl (fun K hK => ?_) AllReady.nil)
              · go_simp
                refine hK _ _ ?_
                clear hK K
                refine wpAny_ready (rs := [10]) (by kernel_rfl) (by simp) (AllReady.cons rfl (fun K hK => ?_) AllReady.nil)
                · go_simp
                  refine hK _ _ ?_
                  clear hK K
                  refine wpAny_done (by kernel_rfl) ?_ _
                  exact ⟨q3'.out, q4'.out, _, by rw [List.map_append]; exact q5'.out⟩
      · go_simp
        refine hK _ _ ?_
        clear hK K
        refine wpAny_ready (rs := [2]) (by kernel_rfl) (by simp) (AllReady.cons rfl (fun K hK => ?_) AllReady.nil)
        · go_simp
          refine hK _ _ ?_
          clear hK K
          refine wpAny_take (i := 4) (v := .pointer (some ⟨w.heap.size, k, none⟩)) rfl (by kernel_rfl) (by kernel_rfl) (by kernel_rfl) (fun _ _ _ h => h) (Or.inl ⟨by rfl, by (intro w'; go_simp)⟩) ?_
          refine wpAny_ready (rs := [5]) (by kernel_rfl) (by simp) (AllReady.cons rfl (fun K hK => ?_) AllReady.nil)
          · go_simp
            refine hK _ _ ?_
            clear hK K
            refine wpAny_ready (rs := [8]) (by kernel_rfl) (by simp) (AllReady.cons rfl (fun K hK => ?_) AllReady.nil)
            · refine step_app kI (by decide) kI_one w.heap.size rfl 38 3 _ _ rfl (.int .i64 0) 8 Try.underlying38 infoI rfl (by decide) _ ps[k] ⟨some ⟨W.heap.size, 0, none⟩, 1, [ea]⟩ rfl rfl (hinn.out.below hzB.out) hlit.out (by simp; omega) kI_apart (by have := hrl.out; have := hlen'.out; simp only [List.length_singleton]; omega) ?_
              intro s' w1 hown hl hg hat
              obtain ⟨q1, q2, q3, q4, q5⟩ := hP'.out.put (by decide) (by decide) (by omega) (Nat.le_refl _) hkp hzB.out hg hown hl hat
              have q0 : w1.cell? ⟨w.heap.size + 1, 0, none⟩ = some (.slice (some ⟨w.heap.size, 0, none⟩) s.l.length s.l.length) := by
                have hx := q5.box
                rw [Below.heap_setCell _ _ _ _ (by simp)] at hx
                simp [World.cell?, hx]
              have q3' := Lib.hid q3
              have q4' := Lib.hid q4
              have q5' := Lib.hid q5
              clear hown hl hg hat q3 q4 q5
              refine hK _ _ ?_
              clear hK K
              refine wpAny_ready (rs := [9]) (by kernel_rfl) (by simp) (AllReady.cons rfl (fun K hK => ?_) AllReady.nil)
              · go_simp
                refine hK _ _ ?_
                clear hK K
                refine wpAny_ready (rs := [10]) (by kernel_rfl) (by simp) (AllReady.cons rfl (fun K hK => ?_) AllReady.nil)
                · go_simp
                  refine hK _ _ ?_
                  clear hK K
                  refine wpAny_done (by kernel_rfl) ?_ _
                  exact ⟨q3'.out, q4'.out, _, by rw [List.map_append]; exact q5'.out⟩
    · go_simp
      refine hK _ _ ?_
      clear hK K
      refine wpAny_take (i := 4) (v := .pointer (some ⟨w.heap.size, k, none⟩)) rfl (by kernel_rfl) (by kernel_rfl) (by kernel_rfl) (fun _ _ _ h => h) (Or.inl ⟨by rfl, by (intro w'; go_simp)⟩) ?_
      refine wpAny_ready (rs := [0, 5, 7]) (by kernel_rfl) (by simp) (AllReady.cons rfl (fun K hK => ?_) (AllReady.cons rfl (fun K hK => ?_) (AllReady.cons rfl (fun K hK => ?_) AllReady.nil)))
      · go_simp
        refine hK _ _ ?_
        clear hK K
        refine wpAny_ready (rs := [5, 7]) (by kernel_rfl) (by simp) (AllReady.cons rfl (fun K hK => ?_) (AllReady.cons rfl (fun K hK => ?_) AllReady.nil))
        · go_simp
          refine hK _ _ ?_
          clear hK K
          refine wpAny_ready (rs := [7]) (by kernel_rfl) (by simp) (AllReady.cons rfl (fun K hK => ?_) AllReady.nil)
          · go_simp
            refine hK _ _ ?_
            clear hK K
            refine wpAny_ready (rs := [8]) (by kernel_rfl) (by simp) (AllReady.cons rfl (fun K hK => ?_) AllReady.nil)
            · refine step_app kI (by decide) kI_one w.heap.size rfl 38 3 _ _ rfl (.int .i64 0) 8 Try.underlying38 infoI rfl (by decide) _ ps[k] ⟨some ⟨W.heap.size, 0, none⟩, 1, [ea]⟩ rfl rfl (hinn.out.below hzB.out) hlit.out (by simp; omega) kI_apart (by have := hrl.out; have := hlen'.out; simp only [List.length_singleton]; omega) ?_
              intro s' w1 hown hl hg hat
              obtain ⟨q1, q2, q3, q4, q5⟩ := hP'.out.put (by decide) (by decide) (by omega) (Nat.le_refl _) hkp hzB.out hg hown hl hat
              have q0 : w1.cell? ⟨w.heap.size + 1, 0, none⟩ = some (.slice (some ⟨w.heap.size, 0, none⟩) s.l.length s.l.length) := by
                have hx := q5.box
                rw [Below.heap_setCell _ _ _ _ (by simp)] at hx
                simp [World.cell?, hx]
              have q3' := Lib.hid q3
              have q4' := Lib.hid q4
              have q5' := Lib.hid q5
              clear hown hl hg hat q3 q4 q5
              refine hK _ _ ?_
              clear hK K
              refine wpAny_ready (rs := [9]) (by kernel_rfl) (by simp) (AllReady.cons rfl (fun K hK => ?_) AllReady.nil)
              · go_simp
                refine hK _ _ ?_
                clear hK K
                refine wpAny_ready (rs := [10]) (by kernel_rfl) (by simp) (AllReady.cons rfl (fun K hK => ?_) AllReady.nil)
                · go_simp
                  refine hK _ _ ?_
                  clear hK K
                  refine wpAny_done (by kernel_rfl) ?_ _
                  exact ⟨q3'.out, q4'.out, _, by rw [List.map_append]; exact q5'.out⟩
        · go_simp
          refine hK _ _ ?_
          clear hK K
          refine wpAny_ready (rs := [5]) (by kernel_rfl) (by simp) (AllReady.cons rfl (fun K hK => ?_) AllReady.nil)
          · go_simp
            refine hK _ _ ?_
            clear hK K
            refine wpAny_ready (rs := [8]) (by kernel_rfl) (by simp) (AllReady.cons rfl (fun K hK => ?_) AllReady.nil)
            · refine step_app kI (by decide) kI_one w.heap.size rfl 38 3 _ _ rfl (.int .i64 0) 8 Try.underlying38 infoI rfl (by decide) _ ps[k] ⟨some ⟨W.heap.size, 0, none⟩, 1, [ea]⟩ rfl rfl (hinn.out.below hzB.out) hlit.out (by simp; omega) kI_apart (by have := hrl.out; have := hlen'.out; simp only [List.length_singleton]; omega) ?_
              intro s' w1 hown hl hg hat
              obtain ⟨q1, q2, q3, q4, q5⟩ := hP'.out.put (by decide) (by decide) (by omega) (Nat.le_refl _) hkp hzB.out hg hown hl hat
              have q0 : w1.cell? ⟨w.heap.size + 1, 0, none⟩ = some (.slice (some ⟨w.heap.size, 0, none⟩) s.l.length s.l.length) := by
                have hx := q5.box
                rw [Below.heap_setCell _ _ _ _ (by simp)] at hx
                simp [World.cell?, hx]
              have q3' := Lib.hid q3
              have q4' := Lib.hid q4
              have q5' := Lib.hid q5
              clear hown hl hg hat q3 q4 q5
              refine hK _ _ ?_
              clear hK K
              refine wpAny_ready (rs := [9]) (by kernel_rfl) (by simp) (AllReady.cons rfl (fun K hK => ?_) AllReady.nil)
              · go_simp
                refine hK _ _ ?_
                clear hK K
                refine wpAny_ready (rs := [10]) (by kernel_rfl) (by simp) (AllReady.cons rfl (fun K hK => ?_) AllReady.nil)
                · go_simp
                  refine hK _ _ ?_
                  clear hK K
                  refine wpAny_done (by kernel_rfl) ?_ _
                  exact ⟨q3'.out, q4'.out, _, by rw [List.map_append]; exact q5'.out⟩
      · go_simp
        refine hK _ _ ?_
        clear hK K
        refine wpAny_ready (rs := [0, 7]) (by kernel_rfl) (by simp) (AllReady.cons rfl (fun K hK => ?_) (AllReady.cons rfl (fun K hK => ?_) AllReady.nil))
        · go_simp
          refine hK _ _ ?_
          clear hK K
          refine wpAny_ready (rs := [7]) (by kernel_rfl) (by simp) (AllReady.cons rfl (fun K hK => ?_) AllReady.nil)
          · go_simp
            refine hK _ _ ?_
            clear hK K
            refine wpAny_ready (rs := [8]) (by kernel_rfl) (by simp) (AllReady.cons rfl (fun K hK => ?_) AllReady.nil)
            · refine step_app kI (by decide) kI_one w.heap.size rfl 38 3 _ _ rfl (.int .i64 0) 8 Try.underlying38 infoI rfl (by decide) _ ps[k] ⟨some ⟨W.heap.size, 0, none⟩, 1, [ea]⟩ rfl rfl (hinn.out.below hzB.out) hlit.out (by simp; omega) kI_apart (by have := hrl.out; have := hlen'.out; simp only [List.length_singleton]; omega) ?_
              intro s' w1 hown hl hg hat
              obtain ⟨q1, q2, q3, q4, q5⟩ := hP'.out.put (by decide) (by decide) (by omega) (Nat.le_refl _) hkp hzB.out hg hown hl hat
              have q0 : w1.cell? ⟨w.heap.size + 1, 0, none⟩ = some (.slice (some ⟨w.heap.size, 0, none⟩) s.l.length s.l.length) := by
                have hx := q5.box
                rw [Below.heap_setCell _ _ _ _ (by simp)] at hx
                simp [World.cell?, hx]
              have q3' := Lib.hid q3
              have q4' := Lib.hid q4
              have q5' := Lib.hid q5
              clear hown hl hg hat q3 q4 q5
              refine hK _ _ ?_
              clear hK K
              refine wpAny_ready (rs := [9]) (by kernel_rfl) (by simp) (AllReady.cons rfl (fun K hK => ?_) AllReady.nil)
              · go_simp
                refine hK _ _ ?_
                clear hK K
                refine wpAny_ready (rs := [10]) (by kernel_rfl) (by simp) (AllReady.cons rfl (fun K hK => ?_) AllReady.nil)
                · go_simp
                  refine hK _ _ ?_
                  clear hK K
                  refine wpAny_done (by kernel_rfl) ?_ _
                  exact ⟨q3'.out, q4'.out, _, by rw [List.map_append]; exact q5'.out⟩
        · go_simp
          refine hK _ _ ?_
          clear hK K
          refine wpAny_ready (rs := [0, 8]) (by kernel_rfl) (by simp) (AllReady.cons rfl (fun K hK => ?_) (AllReady.cons rfl (fun K hK => ?_) AllReady.nil))
          · go_simp
            refine hK _ _ ?_
            clear hK K
            refine wpAny_ready (rs := [8]) (by kernel_rfl) (by simp) (AllReady.cons rfl (fun K hK => ?_) AllReady.nil)
            · refine step_app kI (by decide) kI_one w.heap.size rfl 38 3 _ _ rfl (.int .i64 0) 8 Try.underlying38 infoI rfl (by decide) _ ps[k] ⟨some ⟨W.heap.size, 0, none⟩, 1, [ea]⟩ rfl rfl (hinn.out.below hzB.out) hlit.out (by simp; omega) kI_apart (by have := hrl.out; have := hlen'.out; simp only [List.length_singleton]; omega) ?_
              intro s' w1 hown hl hg hat
              obtain ⟨q1, q2, q3, q4, q5⟩ := hP'.out.put (by decide) (by decide) (by omega) (Nat.le_refl _) hkp hzB.out hg hown hl hat
              have q0 : w1.cell? ⟨w.heap.size + 1, 0, none⟩ = some (.slice (some ⟨w.heap.size, 0, none⟩) s.l.length s.l.length) := by
                have hx := q5.box
                rw [Below.heap_setCell _ _ _ _ (by simp)] at hx
                simp [World.cell?, hx]
              have q3' := Lib.hid q3
              have q4' := Lib.hid q4
              have q5' := Lib.hid q5
              clear hown hl hg hat q3 q4 q5
              refine hK _ _ ?_
              clear hK K
              refine wpAny_ready (rs := [9]) (by kernel_rfl) (by simp) (AllReady.cons rfl (fun K hK => ?_) AllReady.nil)
              · go_simp
                refine hK _ _ ?_
                clear hK K
                refine wpAny_ready (rs := [10]) (by kernel_rfl) (by simp) (AllReady.cons rfl (fun K hK => ?_) AllReady.nil)
                · go_simp
                  refine hK _ _ ?_
                  clear hK K
                  refine wpAny_done (by kernel_rfl) ?_ _
                  exact ⟨q3'.out, q4'.out, _, by rw [List.map_append]; exact q5'.out⟩
          · refine step_app kI (by decide) kI_one w.heap.size rfl 38 3 _ _ rfl (.int .i64 0) 8 Try.underlying38 infoI rfl (by decide) _ ps[k] ⟨some ⟨W.heap.size, 0, none⟩, 1, [ea]⟩ rfl rfl (hinn.out.below hzB.out) hlit.out (by simp; omega) kI_apart (by have := hrl.out; have := hlen'.out; simp only [List.length_singleton]; omega) ?_
            intro s' w1 hown hl hg hat
            obtain ⟨q1, q2, q3, q4, q5⟩ := hP'.out.put (by decide) (by decide) (by omega) (Nat.le_refl _) hkp hzB.out hg hown hl hat
            have q0 : w1.cell? ⟨w.heap.size + 1, 0, none⟩ = some (.slice (some ⟨w.heap.size, 0, none⟩) s.l.length s.l.length) := by
              have hx := q5.box
              rw [Below.heap_setCell _ _ _ _ (by simp)] at hx
              simp [World.cell?, hx]
            have q3' := Lib.hid q3
            have q4' := Lib.hid q4
            have q5' := Lib.hid q5
            clear hown hl hg hat q3 q4 q5
            refine hK _ _ ?_
            clear hK K
            refine wpAny_ready (rs := [0]) (by kernel_rfl) (by simp) (AllReady.cons rfl (fun K hK => ?_) AllReady.nil)
            · go_simp
              refine hK _ _ ?_
              clear hK K
              refine wpAny_ready (rs := [9]) (by kernel_rfl) (by simp) (AllReady.cons rfl (fun K hK => ?_) AllReady.nil)
              · go_simp
                refine hK _ _ ?_
                clear hK K
                refine wpAny_ready (rs := [10]) (by kernel_rfl) (by simp) (AllReady.cons rfl (fun K hK => ?_) AllReady.nil)
                · go_simp
                  refine hK _ _ ?_
                  clear hK K
                  refine wpAny_done (by kernel_rfl) ?_ _
                  exact ⟨q3'.out, q4'.out, _, by rw [List.map_append]; exact q5'.out⟩
      · go_simp
        refine hK _ _ ?_
        clear hK K
        refine wpAny_ready (rs := [0, 5]) (by kernel_rfl) (by simp) (AllReady.cons rfl (fun K hK => ?_) (AllReady.cons rfl (fun K hK => ?_) AllReady.nil))
        · go_simp
          refine hK _ _ ?_
          clear hK K
          refine wpAny_ready (rs := [5]) (by kernel_rfl) (by simp) (AllReady.cons rfl (fun K hK => ?_) AllReady.nil)
          · go_simp
            refine hK _ _ ?_
            clear hK K
            refine wpAny_ready (rs := [8]) (by kernel_rfl) (by simp) (AllReady.cons rfl (fun K hK => ?_) AllReady.nil)
            · refine step_app kI (by decide) kI_one w.heap.size rfl 38 3 _ _ rfl (.int .i64 0) 8 Try.underlying38 infoI rfl (by decide) _ ps[k] ⟨some ⟨W.heap.size, 0, none⟩, 1, [ea]⟩ rfl rfl (hinn.out.below hzB.out) hlit.out (by simp; omega) kI_apart (by have := hrl.out; have := hlen'.out; simp only [List.length_singleton]; omega) ?_
              intro s' w1 hown hl hg hat
              obtain ⟨q1, q2, q3, q4, q5⟩ := hP'.out.put (by decide) (by decide) (by omega) (Nat.le_refl _) hkp hzB.out hg hown hl hat
              have q0 : w1.cell? ⟨w.heap.size + 1, 0, none⟩ = some (.slice (some ⟨w.heap.size, 0, none⟩) s.l.length s.l.length) := by
                have hx := q5.box
                rw [Below.heap_setCell _ _ _ _ (by simp)] at hx
                simp [World.cell?, hx]
              have q3' := Lib.hid q3
              have q4' := Lib.hid q4
              have q5' := Lib.hid q5
              clear hown hl hg hat q3 q4 q5
              refine hK _ _ ?_
              clear hK K
              refine wpAny_ready (rs := [9]) (by kernel_rfl) (by simp) (AllReady.cons rfl (fun K hK => ?_) AllReady.nil)
              · go_simp
                refine hK _ _ ?_
                clear hK K
                refine wpAny_ready (rs := [10]) (by kernel_rfl) (by simp) (AllReady.cons rfl (fun K hK => ?_) AllReady.nil)
                · go_simp
                  refine hK _ _ ?_
                  clear hK K
                  refine wpAny_done (by kernel_rfl) ?_ _
                  exact ⟨q3'.out, q4'.out, _, by rw [List.map_append]; exact q5'.out⟩
        · go_simp
          refine hK _ _ ?_
          clear hK K
          refine wpAny_ready (rs := [0, 8]) (by kernel_rfl) (by simp) (AllReady.cons rfl (fun K hK => ?_) (AllReady.cons rfl (fun K hK => ?_) AllReady.nil))
          · go_simp
            refine hK _ _ ?_
            clear hK K
            refine wpAny_ready (rs := [8]) (by kernel_rfl) (by simp) (AllReady.cons rfl (fun K hK => ?_) AllReady.nil)
            · refine step_app kI (by decide) kI_one w.heap.size rfl 38 3 _ _ rfl (.int .i64 0) 8 Try.underlying38 infoI rfl (by decide) _ ps[k] ⟨some ⟨W.heap.size, 0, none⟩, 1, [ea]⟩ rfl rfl (hinn.out.below hzB.out) hlit.out (by simp; omega) kI_apart (by have := hrl.out; have := hlen'.out; simp only [List.length_singleton]; omega) ?_
              intro s' w1 hown hl hg hat
              obtain ⟨q1, q2, q3, q4, q5⟩ := hP'.out.put (by decide) (by decide) (by omega) (Nat.le_refl _) hkp hzB.out hg hown hl hat
              have q0 : w1.cell? ⟨w.heap.size + 1, 0, none⟩ = some (.slice (some ⟨w.heap.size, 0, none⟩) s.l.length s.l.length) := by
                have hx := q5.box
                rw [Below.heap_setCell _ _ _ _ (by simp)] at hx
                simp [World.cell?, hx]
              have q3' := Lib.hid q3
              have q4' := Lib.hid q4
              have q5' := Lib.hid q5
              clear hown hl hg hat q3 q4 q5
              refine hK _ _ ?_
              clear hK K
              refine wpAny_ready (rs := [9]) (by kernel_rfl) (by simp) (AllReady.cons rfl (fun K hK => ?_) AllReady.nil)
              · go_simp
                refine hK _ _ ?_
                clear hK K
                refine wpAny_ready (rs := [10]) (by kernel_rfl) (by simp) (AllReady.cons rfl (fun K hK => ?_) AllReady.nil)
                · go_simp
                  refine hK _ _ ?_
                  clear hK K
                  refine wpAny_done (by kernel_rfl) ?_ _
                  exact ⟨q3'.out, q4'.out, _, by rw [List.map_append]; exact q5'.out⟩
          · refine step_app kI (by decide) kI_one w.heap.size rfl 38 3 _ _ rfl (.int .i64 0) 8 Try.underlying38 infoI rfl (by decide) _ ps[k] ⟨some ⟨W.heap.size, 0, none⟩, 1, [ea]⟩ rfl rfl (hinn.out.below hzB.out) hlit.out (by simp; omega) kI_apart (by have := hrl.out; have := hlen'.out; simp only [List.length_singleton]; omega) ?_
            intro s' w1 hown hl hg hat
            obtain ⟨q1, q2, q3, q4, q5⟩ := hP'.out.put (by decide) (by decide) (by omega) (Nat.le_refl _) hkp hzB.out hg hown hl hat
            have q0 : w1.cell? ⟨w.heap.size + 1, 0, none⟩ = some (.slice (some ⟨w.heap.size, 0, none⟩) s.l.length s.l.length) := by
              have hx := q5.box
              rw [Below.heap_setCell _ _ _ _ (by simp)] at hx
              simp [World.cell?, hx]
            have q3' := Lib.hid q3
            have q4' := Lib.hid q4
            have q5' := Lib.hid q5
            clear hown hl hg hat q3 q4 q5
            refine hK _ _ ?_
            clear hK K
            refine wpAny_ready (rs := [0]) (by kernel_rfl) (by simp) (AllReady.cons rfl (fun K hK => ?_) AllReady.nil)
            · go_simp
              refine hK _ _ ?_
              clear hK K
              refine wpAny_ready (rs := [9]) (by kernel_rfl) (by simp) (AllReady.cons rfl (fun K hK => ?_) AllReady.nil)
              · go_simp
                refine hK _ _ ?_
                clear hK K
                refine wpAny_ready (rs := [10]) (by kernel_rfl) (by simp) (AllReady.cons rfl (fun K hK => ?_) AllReady.nil)
                · go_simp
                  refine hK _ _ ?_
                  clear hK K
                  refine wpAny_done (by kernel_rfl) ?_ _
                  exact ⟨q3'.out, q4'.out, _, by rw [List.map_append]; exact q5'.out⟩
    · go_simp
      refine hK _ _ ?_
      clear hK K
      refine wpAny_ready (rs := [0, 2]) (by kernel_rfl) (by simp) (AllReady.cons rfl (fun K hK => ?_) (AllReady.cons rfl (fun K hK => ?_) AllReady.nil))
      · go_simp
        refine hK _ _ ?_
        clear hK K
        refine wpAny_ready (rs := [2]) (by kernel_rfl) (by simp) (AllReady.cons rfl (fun K hK => ?_) AllReady.nil)
        · go_simp
          refine hK _ _ ?_
          clear hK K
          refine wpAny_take (i := 4) (v := .pointer (some ⟨w.heap.size, k, none⟩)) rfl (by kernel_rfl) (by kernel_rfl) (by kernel_rfl) (fun _ _ _ h => h) (Or.inl ⟨by rfl, by (intro w'; go_simp)⟩) ?_
          refine wpAny_ready (rs := [5]) (by kernel_rfl) (by simp) (AllReady.cons rfl (fun K hK => ?_) AllReady.nil)
          · go_simp
            refine hK _ _ ?_
            clear hK K
            refine wpAny_ready (rs := [8]) (by kernel_rfl) (by simp) (AllReady.cons rfl (fun K hK => ?_) AllReady.nil)
            · refine step_app kI (by decide) kI_one w.heap.size rfl 38 3 _ _ rfl (.int .i64 0) 8 Try.underlying38 infoI rfl (by decide) _ ps[k] ⟨some ⟨W.heap.size, 0, none⟩, 1, [ea]⟩ rfl rfl (hinn.out.below hzB.out) hlit.out (by simp; omega) kI_apart (by have := hrl.out; have := hlen'.out; simp only [List.length_singleton]; omega) ?_
              intro s' w1 hown hl hg hat
              obtain ⟨q1, q2, q3, q4, q5⟩ := hP'.out.put (by decide) (by decide) (by omega) (Nat.le_refl _) hkp hzB.out hg hown hl hat
              have q0 : w1.cell? ⟨w.heap.size + 1, 0, none⟩ = some (.slice (some ⟨w.heap.size, 0, none⟩) s.l.length s.l.length) := by
                have hx := q5.box
                rw [Below.heap_setCell _ _ _ _ (by simp)] at hx
                simp [World.cell?, hx]
              have q3' := Lib.hid q3
              have q4' := Lib.hid q4
              have q5' := Lib.hid q5
              clear hown hl hg hat q3 q4 q5
              refine hK _ _ ?_
              clear hK K
              refine wpAny_ready (rs := [9]) (by kernel_rfl) (by simp) (AllReady.cons rfl (fun K hK => ?_) AllReady.nil)
              · go_simp
                refine hK _ _ ?_
                clear hK K
                refine wpAny_ready (rs := [10]) (by kernel_rfl) (by simp) (AllReady.cons rfl (fun K hK => ?_) AllReady.nil)
                · go_simp
                  refine hK _ _ ?_
                  clear hK K
                  refine wpAny_done (by kernel_rfl) ?_ _
                  exact ⟨q3'.out, q4'.out, _, by rw [List.map_append]; exact q5'.out⟩
      · go_simp
        refine hK _ _ ?_
        clear hK K
        refine wpAny_take (i := 4) (v := .pointer (some ⟨w.heap.size, k, none⟩)) rfl (by kernel_rfl) (by kernel_rfl) (by kernel_rfl) (fun _ _ _ h => h) (Or.inl ⟨by rfl, by (intro w'; go_simp)⟩) ?_
        refine wpAny_ready (rs := [0, 5]) (by kernel_rfl) (by simp) (AllReady.cons rfl (fun K hK => ?_) (AllReady.cons rfl (fun K hK => ?_) AllReady.nil))
        · go_simp
          refine hK _ _ ?_
          clear hK K
          refine wpAny_ready (rs := [5]) (by kernel_rfl) (by simp) (AllReady.cons rfl (fun K hK => ?_) AllReady.nil)
          · go_simp
            refine hK _ _ ?_
            clear hK K
            refine wpAny_ready (rs := [8]) (by kernel_rfl) (by simp) (AllReady.cons rfl (fun K hK => ?_) AllReady.nil)
            · refine step_app kI (by decide) kI_one w.heap.size rfl 38 3 _ _ rfl (.int .i64 0) 8 Try.underlying38 infoI rfl (by decide) _ ps[k] ⟨some ⟨W.heap.size, 0, none⟩, 1, [ea]⟩ rfl rfl (hinn.out.below hzB.out) hlit.out (by simp; omega) kI_apart (by have := hrl.out; have := hlen'.out; simp only [List.length_singleton]; omega) ?_
              intro s' w1 hown hl hg hat
              obtain ⟨q1, q2, q3, q4, q5⟩ := hP'.out.put (by decide) (by decide) (by omega) (Nat.le_refl _) hkp hzB.out hg hown hl hat
              have q0 : w1.cell? ⟨w.heap.size + 1, 0, none⟩ = some (.slice (some ⟨w.heap.size, 0, none⟩) s.l.length s.l.length) := by
                have hx := q5.box
                rw [Below.heap_setCell _ _ _ _ (by simp)] at hx
                simp [World.cell?, hx]
              have q3' := Lib.hid q3
              have q4' := Lib.hid q4
              have q5' := Lib.hid q5
              clear hown hl hg hat q3 q4 q5
              refine hK _ _ ?_
              clear hK K
              refine wpAny_ready (rs := [9]) (by kernel_rfl) (by simp) (AllReady.cons rfl (fun K hK => ?_) AllReady.nil)
              · go_simp
                refine hK _ _ ?_
                clear hK K
                refine wpAny_ready (rs := [10]) (by kernel_rfl) (by simp) (AllReady.cons rfl (fun K hK => ?_) AllReady.nil)
                · go_simp
                  refine hK _ _ ?_
                  clear hK K
                  refine wpAny_done (by kernel_rfl) ?_ _
                  exact ⟨q3'.out, q4'.out, _, by rw [List.map_append]; exact q5'.out⟩
        · go_simp
          refine hK _ _ ?_
          clear hK K
          refine wpAny_ready (rs := [0, 8]) (by kernel_rfl) (by simp) (AllReady.cons rfl (fun K hK => ?_) (AllReady.cons rfl (fun K hK => ?_) AllReady.nil))
          · go_simp
            refine hK _ _ ?_
            clear hK K
            refine wpAny_ready (rs := [8]) (by kernel_rfl) (by simp) (AllReady.cons rfl (fun K hK => ?_) AllReady.nil)
            · refine step_app kI (by decide) kI_one w.heap.size rfl 38 3 _ _ rfl (.int .i64 0) 8 Try.underlying38 infoI rfl (by decide) _ ps[k] ⟨some ⟨W.heap.size, 0, none⟩, 1, [ea]⟩ rfl rfl (hinn.out.below hzB.out) hlit.out (by simp; omega) kI_apart (by have := hrl.out; have := hlen'.out; simp only [List.length_singleton]; omega) ?_
              intro s' w1 hown hl hg hat
              obtain ⟨q1, q2, q3, q4, q5⟩ := hP'.out.put (by decide) (by decide) (by omega) (Nat.le_refl _) hkp hzB.out hg hown hl hat
              have q0 : w1.cell? ⟨w.heap.size + 1, 0, none⟩ = some (.slice (some ⟨w.heap.size, 0, none⟩) s.l.length s.l.length) := by
                have hx := q5.box
                rw [Below.heap_setCell _ _ _ _ (by simp)] at hx
                simp [World.cell?, hx]
              have q3' := Lib.hid q3
              have q4' := Lib.hid q4
              have q5' := Lib.hid q5
              clear hown hl hg hat q3 q4 q5
              refine hK _ _ ?_
              clear hK K
              refine wpAny_ready (rs := [9]) (by kernel_rfl) (by simp) (AllReady.cons rfl (fun K hK => ?_) AllReady.nil)
              · go_simp
                refine hK _ _ ?_
                clear hK K
                refine wpAny_ready (rs := [10]) (by kernel_rfl) (by simp) (AllReady.cons rfl (fun K hK => ?_) AllReady.nil)
                · go_simp
                  refine hK _ _ ?_
                  clear hK K
                  refine wpAny_done (by kernel_rfl) ?_ _
                  exact ⟨q3'.out, q4'.out, _, by rw [List.map_append]; exact q5'.out⟩
          · refine step_app kI (by decide) kI_one w.heap.size rfl 38 3 _ _ rfl (.int .i64 0) 8 Try.underlying38 infoI rfl (by decide) _ ps[k] ⟨some ⟨W.heap.size, 0, none⟩, 1, [ea]⟩ rfl rfl (hinn.out.below hzB.out) hlit.out (by simp; omega) kI_apart (by have := hrl.out; have := hlen'.out; simp only [List.length_singleton]; omega) ?_
            intro s' w1 hown hl hg hat
            obtain ⟨q1, q2, q3, q4, q5⟩ := hP'.out.put (by decide) (by decide) (by omega) (Nat.le_refl _) hkp hzB.out hg hown hl hat
            have q0 : w1.cell? ⟨w.heap.size + 1, 0, none⟩ = some (.slice (some ⟨w.heap.size, 0, none⟩) s.l.length s.l.length) := by
              have hx := q5.box
              rw [Below.heap_setCell _ _ _ _ (by simp)] at hx
              simp [World.cell?, hx]
            have q3' := Lib.hid q3
            have q4' := Lib.hid q4
            have q5' := Lib.hid q5
            clear hown hl hg hat q3 q4 q5
            refine hK _ _ ?_
            clear hK K
            refine wpAny_ready (rs := [0]) (by kernel_rfl) (by simp) (AllReady.cons rfl (fun K hK => ?_) AllReady.nil)
            · go_simp
              refine hK _ _ ?_
              clear hK K
              refine wpAny_ready (rs := [9]) (by kernel_rfl) (by simp) (AllReady.cons rfl (fun K hK => ?_) AllReady.nil)
              · go_simp
                refine hK _ _ ?_
                clear hK K
                refine wpAny_ready (rs := [10]) (by kernel_rfl) (by simp) (AllReady.cons rfl (fun K hK => ?_) AllReady.nil)
                · go_simp
                  refine hK _ _ ?_
                  clear hK K
                  refine wpAny_done (by kernel_rfl) ?_ _
                  exact ⟨q3'.out, q4'.out, _, by rw [List.map_append]; exact q5'.out⟩
  case done =>
    rintro D ys W hD hS ⟨ps, hP⟩ hK
    have hbx : W.cell? ⟨w.heap.size + 1, 0, none⟩ = some (.slice (some ⟨w.heap.size, 0, none⟩) s.l.length s.l.length) := by simp [World.cell?, hP.box]
    gi_wp2
    refine ⟨by simp, .inl ⟨_, _, rfl, run_takeDeferred hK, ?_⟩⟩
    have hdd : ∀ (k : Nat), k ≠ D → (W.putObj D (.deferred none)).heap[k]? = W.heap[k]? := fun k hk => World.putObj_heap_other hk
    have hPD := hP.keep (W1 := W.putObj D (.deferred none)) (fun k cs T hk => hdd k fun e => by rw [e, hK] at hk; cases hk) (hP.below.trans (belowK_b (w := w) (Nat.le_refl _) W D _ _ (by omega) hK rfl rfl))
    refine ⟨_, results_tmp rfl _ _ _, ⟨some ⟨w.heap.size, 0, none⟩, s.l.length, ps⟩, ?_, ?_, hPD.own, hPD.below⟩
    · simp [Sl.val, hP.len]
    · rw [hR'.out, hP.rows, hS, prs_edges]
      simp [prsOf]
  case stop =>
    rintro D c pre W _ _ h _
    exact h.elim
end Go.Proofs.Ytjlehpgfhlkjlaa
