/-
  jacquardlaw07.some, few; jacquardref04.Words.
-/
import Derived.Test.YtjlehpgfhlkjlaaL7
import Derived.Deep.QuietTactic
import Derived.BigQuiet
import Derived.WalkSmall
set_option linter.all false
namespace Go.Proofs.Ytjlehpgfhlkjlaa
open Go.RowKit Jq Go.Deep
set_option linter.unusedVariables false
set_option maxRecDepth 1000000 in
set_option maxHeartbeats 800000 in
/-- 'jacquardref04.Words'. -/
theorem refWords (s t : Sl Int) (w : World) (hs : kW.sl.rd w s) (ht : kW.sl.rd w t) :
    Calls Try.prog 27 #[s.val, t.val] w fun e w' => e = .returned (.bool (s.l == t.l)) ∧ Below w.heap.size w w' := by
  have hbs := Kd.bound hs
  have hbt := Kd.bound ht
  have hs' := Lib.hid hs
  have ht' := Lib.hid ht
  clear hs ht
  by_cases hl : s.l.length = t.l.length
  · have hd : decide (s.l.length = t.l.length) = true := by simpa using hl
    have hn : ((s.l.length : Int) != (t.l.length : Int)) = false := by simp [hl]
    have hl' := Lib.hid hl
    clear hl
    go_enter Try.func27, Try.ntmps27
    go_wp2_with fail
    go_loopw [5] (fun k wr => ∃ j : Nat, k = .int .i64 j ∧ j ≤ s.l.length ∧ Below w.heap.size w wr ∧ s.l.take j = t.l.take j) (fun k _ => s.l.length - (intOf k).toNat)
    case atStart => exact ⟨0, rfl, Nat.zero_le _, Below.refl _ _, rfl⟩
    case round =>
      obtain ⟨j, rfl, hj, hB, he⟩ := hrel
      have hB' := Lib.hid hB
      have he' := Lib.hid he
      clear hB he
      by_cases hlt : j < s.l.length
      · have hlt2 : j < t.l.length := by have := hl'.out; omega
        obtain ⟨b1, o1, h1, hb1, hc1⟩ := getW 25 21 Try.underlying25 (by kernel_rfl) (kW.sl.below hs'.out hB'.out) j hlt rfl
        obtain ⟨b2, o2, h2, hb2, hc2⟩ := getW 25 21 Try.underlying25 (by kernel_rfl) (kW.sl.below ht'.out hB'.out) j hlt2 rfl
        by_cases hq : s.l[j] = t.l[j]
        · have d1 : (s.l[j] != t.l[j]) = false := by simpa using hq
          have hq' := Lib.hid hq
          clear hq
          go_wp2_with fail
          go_quiet (fail)
          go_wp2_with fail
          go_roundw
          case rel => exact ⟨j + 1, by go_num, by omega, below_drewN hB'.out _, by rw [← take_at _ j s.l[j] (by simp [hlt]), ← take_at _ j t.l[j] (by simp [hlt2]), he'.out, hq'.out]⟩
          case measure => simp [intOf]; omega
        · have d1 : (s.l[j] != t.l[j]) = true := by simpa using hq
          have hq' := Lib.hid hq
          clear hq
          go_wp2_with fail
          go_quiet (fail)
          go_wp2_with fail
          go_ret
          refine ⟨?_, below_drewN hB'.out _⟩
          have : (s.l == t.l) = false := by
            rw [beq_eq_false_iff_ne]
            intro e
            have h3 : s.l[j]? = t.l[j]? := by rw [e]
            rw [List.getElem?_eq_getElem hlt, List.getElem?_eq_getElem hlt2] at h3
            exact hq'.out (by simpa using h3)
          rw [this]
          rfl
      · have hjl : j = s.l.length := by omega
        subst hjl
        go_wp2_with fail
        go_ret
        refine ⟨?_, hB'.out⟩
        have h3 := he'.out
        rw [List.take_length, List.take_of_length_le (by have := hl'.out; omega)] at h3
        rw [h3]
        simp
  · have hn : ((s.l.length : Int) != (t.l.length : Int)) = true := by simp; omega
    have hn2 : decide (s.l.length = t.l.length) = false := by simpa using hl
    have hl' := Lib.hid hl
    clear hl
    go_enter Try.func27, Try.ntmps27
    go_wp2_with fail
    go_ret
    refine ⟨?_, Below.refl _ _⟩
    have : (s.l == t.l) = false := by
      rw [beq_eq_false_iff_ne]
      intro e
      exact hl'.out (by rw [e])
    rw [this]
    rfl
set_option maxRecDepth 1000000 in
set_option maxHeartbeats 800000 in
/-- 'jacquardlaw07.some'. -/
theorem l7some (s : Sl Int) (w : World) (hs : kW.sl.rd w s) :
    Calls Try.prog 17 #[s.val] w (RetSl kW 21 w (s.l.take 20)) := by
  have hbd := Kd.bound hs
  obtain ⟨n, hn, hnl, hne, hnt⟩ : ∃ n : Nat, n ≤ 20 ∧ n ≤ s.l.length ∧ ((s.l.length ≤ 20 → n = s.l.length) ∧ (20 < s.l.length → n = 20)) ∧ s.l.take 20 = (s.tk n).l := by
    by_cases h : s.l.length ≤ 20
    · exact ⟨s.l.length, h, Nat.le_refl _, ⟨fun _ => rfl, fun h2 => by omega⟩, by simp [Sl.tk, List.take_of_length_le h]⟩
    · exact ⟨20, Nat.le_refl _, by omega, ⟨fun h2 => by omega, fun _ => rfl⟩, rfl⟩
  have h1 := run_take (P := Try.prog) 25 21 1 Try.underlying25 (by kernel_rfl) s n hnl (Kd.cap_ hs)
  have hsz : (s.tk n).l.length * 4 ≤ 140737488355328 := by simp [Sl.tk]; omega
  have hrd := tk_rd hs n
  obtain ⟨u, hu⟩ : ∃ u, s.tk n = u := ⟨_, rfl⟩
  rw [hu] at h1 hsz hrd hnt
  have hne' := Lib.hid hne
  have hnt' := Lib.hid hnt
  have hrd' := Lib.hid hrd
  have hsz' := Lib.hid hsz
  clear hne hnt hu hrd hs hsz
  by_cases h : s.l.length ≤ 20
  · obtain rfl := hne'.out.1 h
    have d1 : decide (20 < s.l.length) = false := by simpa using h
    have d3 : decide (s.l.length ≤ 20) = true := by simpa using h
    go_enter Try.func17, Try.ntmps17
    go_wp2_with (at_builtin; go_must (refine wpList_app kW (by decide) kW_one w.heap.size rfl 25 21 _ _ rfl (.int .i32 0) 4 Try.underlying25 infoW rfl (by decide) _ ⟨some ⟨w.heap.size, 0, none⟩, 0, []⟩ u rfl rfl (own_lit (.int .i32) _ _ w [] (Nat.le_refl _) (by simp)) (kW.sl.below hrd'.out (bal (Below.refl _ _) _)) (by simp) kW_apart (by simpa using hsz'.out) ?_; intro s' w1 hown hl hg hat; have hown' := Lib.hid hown; have hl' := Lib.hid hl; have hg' := Lib.hid hg; clear hown hl hg hat))
    go_ret
    exact ⟨s', rfl, by rw [hl'.out, hnt'.out]; rfl, hown'.out, (bal (Below.refl _ _) _).grown hg'.out (by simp) (by intro k hk; simp [Value.ownBlock] at hk; omega)⟩
  · obtain rfl := hne'.out.2 (by omega)
    have h1 : ∀ W : World, (Instr.sliceAt 25 s.val none (some (.int .i64 20)) none).run Try.prog W = .ok u.val W := h1
    have d1 : decide (20 < s.l.length) = true := by simp; omega
    have d3 : decide (s.l.length ≤ 20) = false := by simp; omega
    go_enter Try.func17, Try.ntmps17
    go_wp2_with (at_builtin; go_must (refine wpList_app kW (by decide) kW_one w.heap.size rfl 25 21 _ _ rfl (.int .i32 0) 4 Try.underlying25 infoW rfl (by decide) _ ⟨some ⟨w.heap.size, 0, none⟩, 0, []⟩ u rfl rfl (own_lit (.int .i32) _ _ w [] (Nat.le_refl _) (by simp)) (kW.sl.below hrd'.out (bal (Below.refl _ _) _)) (by simp) kW_apart (by simpa using hsz'.out) ?_; intro s' w1 hown hl hg hat; have hown' := Lib.hid hown; have hl' := Lib.hid hl; have hg' := Lib.hid hg; clear hown hl hg hat))
    go_ret
    exact ⟨s', rfl, by rw [hl'.out, hnt'.out]; rfl, hown'.out, (bal (Below.refl _ _) _).grown hg'.out (by simp) (by intro k hk; simp [Value.ownBlock] at hk; omega)⟩
/-- An instruction of one's own, its operands cut. -/
def FewRes (i : Mach Sl) (n : Nat) (w : World) (e : Ending) (w' : World) : Prop :=
  ∃ t : Sl Int, e = .returned (Mach.v ⟨i.op, i.d, i.e, i.a, i.b, i.c, i.imm, t⟩) ∧ t.l = i.args.l.take n ∧ Own kI 3 w.heap.size w' t ∧ Below w.heap.size w w'
theorem few_results (W : World) (b : Nat) (y : Mach Sl) (hh : W.heap[b]? = some (.cells (kMach.cs y).toArray 40 (0, 0))) (ts : Array Value) (ht : ts[2]? = some (.pointer (some ⟨b, 0, none⟩))) :
    (results Try.f23 ts).run Try.prog W = .ok y.v W := by
  have c0 : W.cell? ⟨b, 0, none⟩ = some (.int .i64 y.op) := by simp [World.cell?, hh, kMach]
  have c1 : W.cell? ⟨b, 1, none⟩ = some (.int .i64 y.d) := by simp [World.cell?, hh, kMach]
  have c2 : W.cell? ⟨b, 2, none⟩ = some (.int .i64 y.e) := by simp [World.cell?, hh, kMach]
  have c3 : W.cell? ⟨b, 3, none⟩ = some (.int .i64 y.a) := by simp [World.cell?, hh, kMach]
  have c4 : W.cell? ⟨b, 4, none⟩ = some (.int .i64 y.b) := by simp [World.cell?, hh, kMach]
  have c5 : W.cell? ⟨b, 5, none⟩ = some (.int .i64 y.c) := by simp [World.cell?, hh, kMach]
  have c6 : W.cell? ⟨b, 6, none⟩ = some (.int .i32 y.imm) := by simp [World.cell?, hh, kMach]
  have c7 : W.cell? ⟨b, 7, none⟩ = some y.args.val := by simp [World.cell?, hh, kMach]
  simp [results, Try.results23, go_sem, Array.getD_eq_getD_getElem?, ht, c0, c1, c2, c3, c4, c5, c6, c7]
/-- Behind the cut: w1; the box has the new row (W2). -/
structure FewW (i : Mach Sl) (s' : Sl Int) (w W2 : World) : Prop where
  p0 : W2.heap[w.heap.size]? = some (.cells (kMach.cs ⟨i.op, i.d, i.e, i.a, i.b, i.c, i.imm, s'⟩).toArray 40 (0, 0))
  p1 : W2.heap[w.heap.size + 1]? = some (.cells #[.int .i64 0, .int .i64 0, .int .i64 0, .int .i64 0, .int .i64 0, .int .i64 0, .int .i32 0, .slice none 0 0] 40 (0, 0))
  own : Own kI 3 (w.heap.size + 2) W2 s'
  below : Below w.heap.size w W2
  cut : s'.l = i.args.l.take 7
theorem few_end {i : Mach Sl} {w W0 w1 : World} {s' u : Sl Int} (hown : Own kI 3 W0.heap.size w1 s') (hl : s'.l = [] ++ u.l) (hg : (W0.alloc (.cells #[] 3)).grownBy w1 (Value.slice (some ⟨W0.heap.size, 0, none⟩) 0 0).ownBlock) (hB0 : Below w.heap.size w W0)
    (hp0 : W0.heap[w.heap.size]? = some (.cells #[.int .i64 i.op, .int .i64 i.d, .int .i64 i.e, .int .i64 i.a, .int .i64 i.b, .int .i64 i.c, .int .i32 i.imm, i.args.val] 40 (0, 0)))
    (hp1 : W0.heap[w.heap.size + 1]? = some (.cells #[.int .i64 0, .int .i64 0, .int .i64 0, .int .i64 0, .int .i64 0, .int .i64 0, .int .i32 0, .slice none 0 0] 40 (0, 0))) (hs0 : W0.heap.size = w.heap.size + 2) (hnt : i.args.l.take 7 = u.l) (o : Nat) (ho : o = 7) :
    FewW i s' w (w1.setCell ⟨w.heap.size, o, none⟩ s'.val) := by
  subst ho
  have hB1 : Below W0.heap.size W0 w1 := (bal (Below.refl _ _) _).grown hg (by simp) (by intro k hk; simp [Value.ownBlock] at hk; omega)
  refine ⟨?_, ?_, ?_, ?_, by rw [hl, hnt]; rfl⟩
  · have h := heap_set_self (o := 7) (v := s'.val) (cs := (kMach.cs i)) (T := 40) (f := (0, 0)) ((hB1.block _ (by omega)).trans hp0)
    simpa [kMach] using h
  · rw [Below.heap_setCell _ _ _ _ (by show w.heap.size + 1 ≠ w.heap.size; omega)]
    exact (hB1.block _ (by omega)).trans hp1
  · refine (hown.lower (by omega)).mv fun k hk => Below.heap_setCell _ _ _ _ ?_
    rcases hk with hk | ⟨x, _, hk⟩
    · have := hown.ge k hk
      show k ≠ w.heap.size
      omega
    · simp [kI, Kd.scalar] at hk
  · exact (hB0.trans (hB1.mono (by omega))).setCell (Nat.le_refl _) _
theorem few_done {i : Mach Sl} {s' : Sl Int} {w W2 : World} (h : FewW i s' w W2) (ts : Array Value) (ht : ts[2]? = some (.pointer (some ⟨w.heap.size + 1, 0, none⟩))) :
    bodyPost Try.prog Try.f23 (FewRes i 7 w) .ret { tmps := ts, defers := [] } ((((((((W2.setCell ⟨w.heap.size + 1, 0, none⟩ (.int .i64 i.op)).setCell ⟨w.heap.size + 1, 1, none⟩ (.int .i64 i.d)).setCell ⟨w.heap.size + 1, 2, none⟩ (.int .i64 i.e)).setCell ⟨w.heap.size + 1, 3, none⟩ (.int .i64 i.a)).setCell ⟨w.heap.size + 1, 4, none⟩ (.int .i64 i.b)).setCell ⟨w.heap.size + 1, 5, none⟩ (.int .i64 i.c)).setCell ⟨w.heap.size + 1, 6, none⟩ (.int .i32 i.imm)).setCell ⟨w.heap.size + 1, 7, none⟩ s'.val) := by
  have hc : Chg (fun k => k = w.heap.size + 1) W2 ((((((((W2.setCell ⟨w.heap.size + 1, 0, none⟩ (.int .i64 i.op)).setCell ⟨w.heap.size + 1, 1, none⟩ (.int .i64 i.d)).setCell ⟨w.heap.size + 1, 2, none⟩ (.int .i64 i.e)).setCell ⟨w.heap.size + 1, 3, none⟩ (.int .i64 i.a)).setCell ⟨w.heap.size + 1, 4, none⟩ (.int .i64 i.b)).setCell ⟨w.heap.size + 1, 5, none⟩ (.int .i64 i.c)).setCell ⟨w.heap.size + 1, 6, none⟩ (.int .i32 i.imm)).setCell ⟨w.heap.size + 1, 7, none⟩ s'.val) :=
    ((((((((Chg.refl (fun k => k = w.heap.size + 1) W2).set _ 0 _ (Or.inl rfl)).set _ 1 _ (Or.inl rfl)).set _ 2 _ (Or.inl rfl)).set _ 3 _ (Or.inl rfl)).set _ 4 _ (Or.inl rfl)).set _ 5 _ (Or.inl rfl)).set _ 6 _ (Or.inl rfl)).set _ 7 _ (Or.inl rfl)
  have e := heap_set_self (o := 7) (v := s'.val) (heap_set_self (o := 6) (v := .int .i32 i.imm) (heap_set_self (o := 5) (v := .int .i64 i.c) (heap_set_self (o := 4) (v := .int .i64 i.b) (heap_set_self (o := 3) (v := .int .i64 i.a) (heap_set_self (o := 2) (v := .int .i64 i.e) (heap_set_self (o := 1) (v := .int .i64 i.d) (heap_set_self (o := 0) (v := .int .i64 i.op) (cs := [.int .i64 0, .int .i64 0, .int .i64 0, .int .i64 0, .int .i64 0, .int .i64 0, .int .i32 0, .slice none 0 0]) (T := 40) (f := (0, 0)) h.p1)))))))
  refine bodyPost_ret (few_results _ (w.heap.size + 1) ⟨i.op, i.d, i.e, i.a, i.b, i.c, i.imm, s'⟩ (by simpa [kMach] using e) _ ht) rfl ⟨s', rfl, h.cut, ?_, below_chg h.below hc (fun k hk => by omega) h.below.size⟩
  refine (h.own.lower (by omega)).mv fun k hk => ?_
  rcases hk with hk | ⟨x, _, hk⟩
  · have h1 := h.own.ge k hk
    exact hc.block k (h.own.lt k (Or.inl hk)) (by omega)
  · simp [kI, Kd.scalar] at hk
set_option maxRecDepth 1000000 in
set_option maxHeartbeats 800000 in
/-- 'jacquardlaw07.few'. -/
theorem l7few (i : Mach Sl) (w : World) (hi : kMach.rd w i) :
    Calls Try.prog 23 #[i.v] w (FewRes i 7 w) := by
  have hs : kI.sl.rd w i.args := hi
  have hbd := Kd.bound hs
  obtain ⟨n, hn, hnl, hne, hnt⟩ : ∃ n : Nat, n ≤ 7 ∧ n ≤ i.args.l.length ∧ ((i.args.l.length ≤ 7 → n = i.args.l.length) ∧ (7 < i.args.l.length → n = 7)) ∧ i.args.l.take 7 = (i.args.tk n).l := by
    by_cases h : i.args.l.length ≤ 7
    · exact ⟨i.args.l.length, h, Nat.le_refl _, ⟨fun _ => rfl, fun h2 => by omega⟩, by simp [Sl.tk, List.take_of_length_le h]⟩
    · exact ⟨7, Nat.le_refl _, by omega, ⟨fun h2 => by omega, fun _ => rfl⟩, rfl⟩
  have h1 := run_take (P := Try.prog) 38 3 1 Try.underlying38 (by kernel_rfl) i.args n hnl (Kd.cap_ hs)
  have hsz : (i.args.tk n).l.length * 8 ≤ 140737488355328 := by simp [Sl.tk]; omega
  have hrd := tk_rd hs n
  obtain ⟨u, hu⟩ : ∃ u, i.args.tk n = u := ⟨_, rfl⟩
  rw [hu] at h1 hsz hrd hnt
  have hne' := Lib.hid hne
  have hnt' := Lib.hid hnt
  have hrd' := Lib.hid hrd
  have hsz' := Lib.hid hsz
  clear hne hnt hu hrd hs hsz hi
  by_cases h : i.args.l.length ≤ 7
  · obtain rfl := hne'.out.1 h
    have d1 : decide (7 < i.args.l.length) = false := by simpa using h
    have d3 : decide (i.args.l.length ≤ 7) = true := by simpa using h
    go_enter Try.func23, Try.ntmps23
    go_upto_region 1 with fail
    obtain ⟨W0, hW0⟩ : ∃ W0, W0 = (w.alloc (.cells #[.int .i64 i.op, .int .i64 i.d, .int .i64 i.e, .int .i64 i.a, .int .i64 i.b, .int .i64 i.c, .int .i32 i.imm, i.args.val] 40)).alloc (.cells #[.int .i64 0, .int .i64 0, .int .i64 0, .int .i64 0, .int .i64 0, .int .i64 0, .int .i32 0, .slice none 0 0] 40) := ⟨_, rfl⟩
    have hB0 : Below w.heap.size w W0 := by rw [hW0]; exact bal (bal (Below.refl _ _) _) _
    have hs0 : W0.heap.size = w.heap.size + 2 := by rw [hW0]; simp
    have hp0 : W0.heap[w.heap.size]? = some (.cells #[.int .i64 i.op, .int .i64 i.d, .int .i64 i.e, .int .i64 i.a, .int .i64 i.b, .int .i64 i.c, .int .i32 i.imm, i.args.val] 40 (0, 0)) := by
      rw [hW0, Below.heap_alloc _ _ _ (by simp)]
      exact heap_alloc_new w _
    have hp1 : W0.heap[w.heap.size + 1]? = some (.cells #[.int .i64 0, .int .i64 0, .int .i64 0, .int .i64 0, .int .i64 0, .int .i64 0, .int .i32 0, .slice none 0 0] 40 (0, 0)) := by
      rw [hW0]
      have h := heap_alloc_new (w.alloc (.cells #[.int .i64 i.op, .int .i64 i.d, .int .i64 i.e, .int .i64 i.a, .int .i64 i.b, .int .i64 i.c, .int .i32 i.imm, i.args.val] 40)) (.cells #[.int .i64 0, .int .i64 0, .int .i64 0, .int .i64 0, .int .i64 0, .int .i64 0, .int .i32 0, .slice none 0 0] 40)
      simpa using h
    rw [← hW0]
    have hB0' := Lib.hid hB0
    have hp0' := Lib.hid hp0
    have hp1' := Lib.hid hp1
    have hs0' := Lib.hid hs0
    have c7 : W0.cell? ⟨w.heap.size, 7, none⟩ = some i.args.val := by simp [World.cell?, hp0]
    have hlt0 : w.heap.size + 1 < W0.heap.size := by omega
    have hlt1 : w.heap.size < W0.heap.size := by omega
    clear hB0 hp0 hp1 hs0 hW0
    go_upto_region 2 with (at_builtin; go_must (refine wpList_app kI (by decide) kI_one W0.heap.size rfl 38 3 _ _ rfl (.int .i64 0) 8 Try.underlying38 infoI rfl (by decide) _ ⟨some ⟨W0.heap.size, 0, none⟩, 0, []⟩ u rfl rfl (own_lit (.int .i64) _ _ W0 [] (Nat.le_refl _) (by simp)) (kI.sl.below hrd'.out (bal hB0'.out _)) (by simp) kI_apart (by simpa using hsz'.out) ?_; intro s' w1 hown hl hg hat; have q1 := few_end hown hl hg hB0'.out hp0'.out hp1'.out hs0'.out hnt'.out 7 rfl; have hB1 : Below W0.heap.size W0 w1 := (bal (Below.refl _ _) _).grown hg (by simp) (by intro k hk; simp [Value.ownBlock] at hk; omega); have p0 := (hB1.block _ (by omega)).trans hp0'.out; have f7 : w1.frozen? ⟨w.heap.size, 7, none⟩ = false := (by simp [World.frozen?, p0]); have c7' : w1.cell? ⟨w.heap.size, 7, none⟩ = some i.args.val := (by simp [World.cell?, p0]); have q1' := Lib.hid q1; clear hown hl hg hat q1 p0 hB1))
    obtain ⟨W2, hW2⟩ : ∃ W2, W2 = w1.setCell ⟨w.heap.size, 7, none⟩ s'.val := ⟨_, rfl⟩
    rw [← hW2] at q1'
    have hW2' : w1.setCell ⟨w.heap.size, 7, none⟩ (.slice s'.A s'.l.length s'.cap) = W2 := hW2.symm
    go_must (rw [hW2'])
    clear hW2 hW2' f7 c7'
    have b0 : W2.cell? ⟨w.heap.size, 0, none⟩ = some (.int .i64 i.op) := by simp [World.cell?, q1'.out.p0, kMach]
    have b1 : W2.cell? ⟨w.heap.size, 1, none⟩ = some (.int .i64 i.d) := by simp [World.cell?, q1'.out.p0, kMach]
    have b2 : W2.cell? ⟨w.heap.size, 2, none⟩ = some (.int .i64 i.e) := by simp [World.cell?, q1'.out.p0, kMach]
    have b3 : W2.cell? ⟨w.heap.size, 3, none⟩ = some (.int .i64 i.a) := by simp [World.cell?, q1'.out.p0, kMach]
    have b4 : W2.cell? ⟨w.heap.size, 4, none⟩ = some (.int .i64 i.b) := by simp [World.cell?, q1'.out.p0, kMach]
    have b5 : W2.cell? ⟨w.heap.size, 5, none⟩ = some (.int .i64 i.c) := by simp [World.cell?, q1'.out.p0, kMach]
    have b6 : W2.cell? ⟨w.heap.size, 6, none⟩ = some (.int .i32 i.imm) := by simp [World.cell?, q1'.out.p0, kMach]
    have b7 : W2.cell? ⟨w.heap.size, 7, none⟩ = some s'.val := by simp [World.cell?, q1'.out.p0, kMach]
    have z0 : W2.cell? ⟨w.heap.size + 1, 0, none⟩ = some (.int .i64 0) := by simp [World.cell?, q1'.out.p1]
    have z1 : W2.cell? ⟨w.heap.size + 1, 1, none⟩ = some (.int .i64 0) := by simp [World.cell?, q1'.out.p1]
    have z2 : W2.cell? ⟨w.heap.size + 1, 2, none⟩ = some (.int .i64 0) := by simp [World.cell?, q1'.out.p1]
    have z3 : W2.cell? ⟨w.heap.size + 1, 3, none⟩ = some (.int .i64 0) := by simp [World.cell?, q1'.out.p1]
    have z4 : W2.cell? ⟨w.heap.size + 1, 4, none⟩ = some (.int .i64 0) := by simp [World.cell?, q1'.out.p1]
    have z5 : W2.cell? ⟨w.heap.size + 1, 5, none⟩ = some (.int .i64 0) := by simp [World.cell?, q1'.out.p1]
    have z6 : W2.cell? ⟨w.heap.size + 1, 6, none⟩ = some (.int .i32 0) := by simp [World.cell?, q1'.out.p1]
    have z7 : W2.cell? ⟨w.heap.size + 1, 7, none⟩ = some (.slice none 0 0) := by simp [World.cell?, q1'.out.p1]
    have fz : ∀ k, W2.frozen? ⟨w.heap.size + 1, k, none⟩ = false := by intro k; simp [World.frozen?, q1'.out.p1]
    go_wp2_with fail
    exact few_done q1'.out _ rfl
  · obtain rfl := hne'.out.2 (by omega)
    have h1 : ∀ W : World, (Instr.sliceAt 38 i.args.val none (some (.int .i64 7)) none).run Try.prog W = .ok u.val W := h1
    have d1 : decide (7 < i.args.l.length) = true := by simp; omega
    have d3 : decide (i.args.l.length ≤ 7) = false := by simp; omega
    go_enter Try.func23, Try.ntmps23
    go_upto_region 1 with fail
    obtain ⟨W0, hW0⟩ : ∃ W0, W0 = (w.alloc (.cells #[.int .i64 i.op, .int .i64 i.d, .int .i64 i.e, .int .i64 i.a, .int .i64 i.b, .int .i64 i.c, .int .i32 i.imm, i.args.val] 40)).alloc (.cells #[.int .i64 0, .int .i64 0, .int .i64 0, .int .i64 0, .int .i64 0, .int .i64 0, .int .i32 0, .slice none 0 0] 40) := ⟨_, rfl⟩
    have hB0 : Below w.heap.size w W0 := by rw [hW0]; exact bal (bal (Below.refl _ _) _) _
    have hs0 : W0.heap.size = w.heap.size + 2 := by rw [hW0]; simp
    have hp0 : W0.heap[w.heap.size]? = some (.cells #[.int .i64 i.op, .int .i64 i.d, .int .i64 i.e, .int .i64 i.a, .int .i64 i.b, .int .i64 i.c, .int .i32 i.imm, i.args.val] 40 (0, 0)) := by
      rw [hW0, Below.heap_alloc _ _ _ (by simp)]
      exact heap_alloc_new w _
    have hp1 : W0.heap[w.heap.size + 1]? = some (.cells #[.int .i64 0, .int .i64 0, .int .i64 0, .int .i64 0, .int .i64 0, .int .i64 0, .int .i32 0, .slice none 0 0] 40 (0, 0)) := by
      rw [hW0]
      have h := heap_alloc_new (w.alloc (.cells #[.int .i64 i.op, .int .i64 i.d, .int .i64 i.e, .int .i64 i.a, .int .i64 i.b, .int .i64 i.c, .int .i32 i.imm, i.args.val] 40)) (.cells #[.int .i64 0, .int .i64 0, .int .i64 0, .int .i64 0, .int .i64 0, .int .i64 0, .int .i32 0, .slice none 0 0] 40)
      simpa using h
    rw [← hW0]
    have hB0' := Lib.hid hB0
    have hp0' := Lib.hid hp0
    have hp1' := Lib.hid hp1
    have hs0' := Lib.hid hs0
    have c7 : W0.cell? ⟨w.heap.size, 7, none⟩ = some i.args.val := by simp [World.cell?, hp0]
    have hlt0 : w.heap.size + 1 < W0.heap.size := by omega
    have hlt1 : w.heap.size < W0.heap.size := by omega
    clear hB0 hp0 hp1 hs0 hW0
    go_upto_region 2 with (at_builtin; go_must (refine wpList_app kI (by decide) kI_one W0.heap.size rfl 38 3 _ _ rfl (.int .i64 0) 8 Try.underlying38 infoI rfl (by decide) _ ⟨some ⟨W0.heap.size, 0, none⟩, 0, []⟩ u rfl rfl (own_lit (.int .i64) _ _ W0 [] (Nat.le_refl _) (by simp)) (kI.sl.below hrd'.out (bal hB0'.out _)) (by simp) kI_apart (by simpa using hsz'.out) ?_; intro s' w1 hown hl hg hat; have q1 := few_end hown hl hg hB0'.out hp0'.out hp1'.out hs0'.out hnt'.out 7 rfl; have hB1 : Below W0.heap.size W0 w1 := (bal (Below.refl _ _) _).grown hg (by simp) (by intro k hk; simp [Value.ownBlock] at hk; omega); have p0 := (hB1.block _ (by omega)).trans hp0'.out; have f7 : w1.frozen? ⟨w.heap.size, 7, none⟩ = false := (by simp [World.frozen?, p0]); have c7' : w1.cell? ⟨w.heap.size, 7, none⟩ = some i.args.val := (by simp [World.cell?, p0]); have q1' := Lib.hid q1; clear hown hl hg hat q1 p0 hB1))
    obtain ⟨W2, hW2⟩ : ∃ W2, W2 = w1.setCell ⟨w.heap.size, 7, none⟩ s'.val := ⟨_, rfl⟩
    rw [← hW2] at q1'
    have hW2' : w1.setCell ⟨w.heap.size, 7, none⟩ (.slice s'.A s'.l.length s'.cap) = W2 := hW2.symm
    go_must (rw [hW2'])
    clear hW2 hW2' f7 c7'
    have b0 : W2.cell? ⟨w.heap.size, 0, none⟩ = some (.int .i64 i.op) := by simp [World.cell?, q1'.out.p0, kMach]
    have b1 : W2.cell? ⟨w.heap.size, 1, none⟩ = some (.int .i64 i.d) := by simp [World.cell?, q1'.out.p0, kMach]
    have b2 : W2.cell? ⟨w.heap.size, 2, none⟩ = some (.int .i64 i.e) := by simp [World.cell?, q1'.out.p0, kMach]
    have b3 : W2.cell? ⟨w.heap.size, 3, none⟩ = some (.int .i64 i.a) := by simp [World.cell?, q1'.out.p0, kMach]
    have b4 : W2.cell? ⟨w.heap.size, 4, none⟩ = some (.int .i64 i.b) := by simp [World.cell?, q1'.out.p0, kMach]
    have b5 : W2.cell? ⟨w.heap.size, 5, none⟩ = some (.int .i64 i.c) := by simp [World.cell?, q1'.out.p0, kMach]
    have b6 : W2.cell? ⟨w.heap.size, 6, none⟩ = some (.int .i32 i.imm) := by simp [World.cell?, q1'.out.p0, kMach]
    have b7 : W2.cell? ⟨w.heap.size, 7, none⟩ = some s'.val := by simp [World.cell?, q1'.out.p0, kMach]
    have z0 : W2.cell? ⟨w.heap.size + 1, 0, none⟩ = some (.int .i64 0) := by simp [World.cell?, q1'.out.p1]
    have z1 : W2.cell? ⟨w.heap.size + 1, 1, none⟩ = some (.int .i64 0) := by simp [World.cell?, q1'.out.p1]
    have z2 : W2.cell? ⟨w.heap.size + 1, 2, none⟩ = some (.int .i64 0) := by simp [World.cell?, q1'.out.p1]
    have z3 : W2.cell? ⟨w.heap.size + 1, 3, none⟩ = some (.int .i64 0) := by simp [World.cell?, q1'.out.p1]
    have z4 : W2.cell? ⟨w.heap.size + 1, 4, none⟩ = some (.int .i64 0) := by simp [World.cell?, q1'.out.p1]
    have z5 : W2.cell? ⟨w.heap.size + 1, 5, none⟩ = some (.int .i64 0) := by simp [World.cell?, q1'.out.p1]
    have z6 : W2.cell? ⟨w.heap.size + 1, 6, none⟩ = some (.int .i32 0) := by simp [World.cell?, q1'.out.p1]
    have z7 : W2.cell? ⟨w.heap.size + 1, 7, none⟩ = some (.slice none 0 0) := by simp [World.cell?, q1'.out.p1]
    have fz : ∀ k, W2.frozen? ⟨w.heap.size + 1, k, none⟩ = false := by intro k; simp [World.frozen?, q1'.out.p1]
    go_wp2_with fail
    exact few_done q1'.out _ rfl
end Go.Proofs.Ytjlehpgfhlkjlaa
