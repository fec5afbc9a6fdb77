/-
  interp.run: end, step, words, and the closure that ends it where there is no such word.
-/
import Derived.Test.YtjlehpgfhlkjlaaInt1
import Derived.Test.YtjlehpgfhlkjlaaUse
set_option linter.all false
namespace Go.Proofs.Ytjlehpgfhlkjlaa
open Go.RowKit Jq
set_option linter.unusedVariables false
section
variable {kb mb B : Nat} {lim : Int} {w : World} {s : IS} {M : Sl Int} {C : Sl (Jq.Event Sl)} {A : Sl Int}
/-- What a method leaves. -/
def MR (kb mb B : Nat) (lim : Int) (w : World) (v : Value) (s : IS) (e : Ending) (w' : World) : Prop := e = .returned v ∧ (∃ M C A, RK kb mb B lim w' s M C A) ∧ ChI kb mb B w w'
set_option maxRecDepth 100000 in
set_option maxHeartbeats 1000000 in
/-- 'run.end'. -/
theorem inEnd (h : RK kb mb B lim w s M C A) (k v : Int) : Calls Try.prog 115 #[.pointer (some ⟨kb, 0, none⟩), .int .i64 k, .int .i32 v] w (MR kb mb B lim w (.tuple #[]) (s.end_ k v)) := by
  obtain ⟨c0, c1, c2, c3, c4, c5, c6, c7, cf⟩ := h.c
  have f1 := cf 1
  have f2 := cf 2
  have h1 := h.setk 1 (.int .i64 k) { s with fin := k } A rfl rfl rfl h.ans h.afp h.al rfl
  have d2 : (w.setCell ⟨kb, 1, none⟩ (.int .i64 k)).cell? ⟨kb, 2, none⟩ = some (.int .i32 s.val) := by simp [World.cell?, h1.k]
  have g2 : (w.setCell ⟨kb, 1, none⟩ (.int .i64 k)).frozen? ⟨kb, 2, none⟩ = false := by simp [World.frozen?, h1.k]
  have h' := Lib.hid h
  clear h h1 c0 c3 c4 c5 c6 c7 cf
  go_enter Try.func115, Try.ntmps115
  go_wp2_with fail
  go_end0
  exact ⟨rfl, ⟨M, C, A, h'.out.end_ k v⟩, ((ChI.refl w).set 1 _).set 2 _⟩
set_option maxRecDepth 100000 in
set_option maxHeartbeats 1000000 in
/-- 'run.step'. -/
theorem inStep (h : RK kb mb B lim w s M C A) (hs : 0 ≤ s.steps) (hl : lim ≤ 1099511627776) : Calls Try.prog 78 #[.pointer (some ⟨kb, 0, none⟩)] w (MR kb mb B lim w (.bool (s.step lim).2) (s.step lim).1) := by
  obtain ⟨c0, c1, c2, c3, c4, c5, c6, c7, cf⟩ := h.c
  have f5 := cf 5
  have h' := Lib.hid h
  have hkl := lt_of_block h.k
  clear h c0 c2 c3 c4 c6 cf
  by_cases hf : s.fin = 0
  · have hfb : (s.fin == 0) = true := by simpa using hf
    by_cases hlm : lim ≤ s.steps
    · have e1 : s.step lim = (s.end_ 3 0, false) := by
        have e2 : s.stop lim = s.end_ 3 0 := by unfold IS.stop; rw [if_pos ⟨hf, hlm⟩]
        unfold IS.step
        rw [e2, if_pos (by simp [IS.end_])]
      have e1' := Lib.hid e1
      have hne : ((3 : Int) != 0) = true := by decide
      clear e1
      go_enter Try.func78, Try.ntmps78
      go_wp2_with fail
      go_quiet (fail)
      have hq := h'.out.go (ckdn w nq)
      have hcq := Lib.hid (ChI.of (kb := kb) (mb := mb) (B := B) (ckdn w nq))
      clear c1 c5 c7
      go_wp2_with fail
      refine (inEnd hq 3 0).mono ?_
      rintro e w1 ⟨rfl, ⟨M1, C1, A1, h1⟩, hc1⟩
      have d1 := h1.c.2.1
      have h1' := Lib.hid h1
      have hc1' := Lib.hid (hcq.out.trans hc1)
      simp only [IS.end_] at d1
      clear h1 hc1 hq
      go_wp2_with fail
      go_ret
      rw [e1'.out]
      exact ⟨rfl, ⟨_, _, _, h1'.out⟩, hc1'.out⟩
    · have e1 : s.step lim = ({ s with steps := s.steps + 1 }, true) := by
        have e2 : s.stop lim = s := by unfold IS.stop; rw [if_neg (by omega)]
        unfold IS.step
        rw [e2, if_neg (by simpa using hf)]
      have e1' := Lib.hid e1
      have hlm2 : s.steps < lim := by omega
      have hne : (s.fin != 0) = false := by simp [hf]
      clear e1
      go_enter Try.func78, Try.ntmps78
      go_wp2_with fail
      go_quiet (fail)
      have hq := h'.out.go (ckdn w nq)
      have hcq := Lib.hid (ChI.of (kb := kb) (mb := mb) (B := B) (ckdn w nq))
      have hq' := Lib.hid hq
      clear hq
      go_wp2_with fail
      go_ret
      rw [e1'.out]
      exact ⟨rfl, ⟨_, _, _, hq'.out.setk 5 _ { s with steps := s.steps + 1 } A rfl rfl rfl hq'.out.ans hq'.out.afp hq'.out.al rfl⟩, hcq.out.set 5 _⟩
  · have e1 : s.step lim = (s, false) := by
      have e2 : s.stop lim = s := by unfold IS.stop; rw [if_neg (by omega)]
      unfold IS.step
      rw [e2, if_pos hf]
    have e1' := Lib.hid e1
    have hne : (s.fin != 0) = true := by simpa using hf
    have hfb : (s.fin == 0) = false := by simpa using hf
    clear e1 hf
    go_enter Try.func78, Try.ntmps78
    go_wp2_with fail
    go_quiet (fail)
    have hq' := Lib.hid (h'.out.go (ckdn w nq))
    have hcq := Lib.hid (ChI.of (kb := kb) (mb := mb) (B := B) (ckdn w nq))
    go_wp2_with fail
    go_ret
    rw [e1'.out]
    exact ⟨rfl, ⟨_, _, _, hq'.out⟩, hcq.out⟩
/-- What a value is, asked of the map. -/
theorem askV (h : RK kb mb B lim w s M C A) (n : Int) (W : World) (hW : W.heap[mb]? = w.heap[mb]?) : (Instr.lookup 120 (.map (some mb)) (.int .i64 n) false).run Try.prog W = .ok (.int .i32 (s.vals n)) W := by
  obtain ⟨l, hl, hg⟩ := h.m
  have hask := run_ask (P := Try.prog) 120 3 21 .i64 Try.underlying120 Try.underlying3 (.int .i32 0) (fun w => by kernel_rfl) W mb (l.map vE) n (hW.trans hl)
  rw [lk_vE, hg] at hask
  exact hask
set_option maxRecDepth 100000 in
set_option maxHeartbeats 1000000 in
/-- 'run.words'. -/
theorem inWords (h : RK kb mb B lim w s M C A) (l : Sl Int) (hl : kI.sl.rd w l) (h8 : l.l.length * 4 ≤ 140737488355328) : Calls Try.prog 116 #[.pointer (some ⟨kb, 0, none⟩), l.val] w (RetSl kW 21 w (s.words l.l)) := by
  have hbd := Kd.bound hl
  have hkl := lt_of_block h.k
  have h' := Lib.hid h
  have hl' := Lib.hid hl
  clear h hl
  go_enter Try.func116, Try.ntmps116
  go_wp2_with fail
  go_loopg [4, 9] (l.l.length) (fun g a q wr => ∃ (j : Nat) (o : Sl Int), q = .int .i64 j ∧ a = o.val ∧ j ≤ l.l.length ∧ g = l.l.length - j ∧ Own kW 21 w.heap.size wr o ∧ Below w.heap.size w wr ∧ o.l = (l.l.take j).map s.vals)
  case atStart => exact ⟨0, nilSl, rfl, rfl, Nat.zero_le _, rfl, Own.nil _ _ _ _, Below.refl _ _, by simp [nilSl]⟩
  case round =>
    obtain ⟨j, o, rfl, rfl, hj, hg, ho, hb, hol⟩ := hrel
    have ho' := Lib.hid ho
    have hb' := Lib.hid hb
    have hol' := Lib.hid hol
    have hg' := Lib.hid hg
    clear ho hb hol hg
    by_cases hlt : j < l.l.length
    · obtain ⟨b1, o1, h1, hb1, hc1⟩ := getI 38 3 Try.underlying38 (by kernel_rfl) (kI.sl.below hl'.out hb'.out) j hlt rfl
      have hkw : w.heap[kb]? = _ := h'.out.k
      have c0 : wr.cell? ⟨kb, 0, none⟩ = some (.map (some mb)) := by rw [hb'.out.cell (p := ⟨kb, 0, none⟩) hkl]; exact h'.out.c.1
      have hask := askV h'.out l.l[j] wr (by obtain ⟨lv, hlv, _⟩ := h'.out.m; exact hb'.out.block _ (lt_of_block hlv))
      have hol2 : o.l.length ≤ j := by rw [hol'.out]; simp; omega
      clear hkw
      go_wp2_with (at_builtin; go_must (refine wpList_app kW (by decide) kW_one w.heap.size rfl 25 21 _ _ rfl (.int .i32 0) 4 Try.underlying25 infoW rfl (by decide) _ o ⟨some ⟨wr.heap.size, 0, none⟩, 1, [s.vals l.l[j]]⟩ rfl rfl (ho'.out.below (bal (Below.refl _ _) _)) (own_lit (.int .i32) 21 0 wr [s.vals l.l[j]] (by simp) (by simp)).rd (by have := hb'.out.size; simp; omega) kW_apart (by simp only [List.length_singleton]; omega) ?_; intro o2 w9 hown hl2 hgr hat; have hown' := Lib.hid hown; have hl2' := Lib.hid hl2; have hB := Lib.hid (Below.grown (bthen hb'.out (bal (Below.refl _ _) (.cells #[.int .i32 (s.vals l.l[j])] 21))) hgr (by have := hb'.out.size; simp; omega) (fun q hq => ho'.out.ge q hq.symm)); clear hown hl2 hgr hat))
      go_roundg (l.l.length - (j + 1))
      case measure => have := hg'.out; omega
      case rel => exact ⟨j + 1, o2, by go_num, rfl, by omega, rfl, hown'.out, hB.out, by rw [hl2'.out, hol'.out, List.take_succ_eq_append_getElem hlt, List.map_append]; rfl⟩
    · have hjl : j = l.l.length := by omega
      subst hjl
      go_wp2_with fail
      go_ret
      exact ⟨o, rfl, by rw [hol'.out, List.take_length]; rfl, ho'.out, hb'.out⟩
set_option maxRecDepth 100000 in
set_option maxHeartbeats 1000000 in
/-- 'memory'. -/
theorem inMem (h : RK kb mb B lim w s M C A) (gk : Nat) (hk : w.cell? ⟨gk, 0, none⟩ = some (.pointer (some ⟨kb, 0, none⟩))) (v : Int) (ok : Bool) : Calls Try.prog 117 #[.int .i32 v, .bool ok, .pointer (some ⟨gk, 0, none⟩)] w (MR kb mb B lim w (.int .i32 v) (if ok then s else s.end_ 2 (-2))) := by
  have h' := Lib.hid h
  cases ok with
  | true =>
    clear h hk
    go_enter Try.func117, Try.ntmps117
    go_wp2_with fail
    go_ret
    exact ⟨rfl, ⟨_, _, _, h'.out⟩, ChI.refl _⟩
  | false =>
    clear h
    go_enter Try.func117, Try.ntmps117
    go_wp2_with fail
    refine (inEnd h'.out 2 (-2)).mono ?_
    rintro e w1 ⟨rfl, ⟨M1, C1, A1, h1⟩, hc1⟩
    have h1' := Lib.hid h1
    have hc1' := Lib.hid hc1
    clear h1 hc1
    go_wp2_with fail
    go_ret
    exact ⟨rfl, ⟨_, _, _, h1'.out⟩, hc1'.out⟩
end
end Go.Proofs.Ytjlehpgfhlkjlaa
