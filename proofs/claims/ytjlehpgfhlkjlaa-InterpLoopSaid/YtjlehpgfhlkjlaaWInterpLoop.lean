/-
  The walk of the law InterpLoop.
-/
import Derived.Test.YtjlehpgfhlkjlaaLit
import Derived.OpenShut
set_option linter.all false
namespace Go.Proofs.Ytjlehpgfhlkjlaa
open Go.RowKit Jq
set_option linter.unusedVariables false
theorem tri_bound (m : Nat) (h : m ≤ 60) : 0 ≤ tri m ∧ tri m ≤ 60 * m := by
  induction m with
  | zero => simp [tri]
  | succ m ih =>
    have := ih (by omega)
    simp only [tri]
    omega
set_option maxRecDepth 1000000 in
set_option maxHeartbeats 4000000 in
theorem walkInterpLoop (w : World) (n : Int) (on : (Lit.int .u8 n).wf = true) (a : Int) (oa : (Lit.int .i32 a).wf = true) (st : Int) (os : (Lit.int .u16 st).wf = true) :
    Calls Try.prog 11 #[.int .u8 n, .int .i32 a, .int .u16 st] w fun e w' => e = .returned (.bool true) ∧ Below w.heap.size w w' := by
  have hn : 0 ≤ n ∧ n ≤ 255 := bounds_u8 on
  have ha : wrap32 a = a := by
    have h : -2147483648 ≤ a ∧ a ≤ 2147483647 := bounds_i32 oa
    unfold wrap32; omega
  have hst : 0 ≤ st ∧ st ≤ 65535 := bounds_u16 os
  clear on oa os
  obtain ⟨m, hm⟩ : ∃ m : Nat, (m : Int) = n % 61 := ⟨(n % 61).toNat, by omega⟩
  obtain ⟨lim, hlim⟩ : ∃ lim : Int, lim = st % 512 := ⟨_, rfl⟩
  go_enter Try.func11, Try.ntmps11
  go_wp2_with fail
  refine (l4shown w).mono ?_
  rintro e w1 ⟨rfl, hb1⟩
  have hb1' := Lib.hid hb1
  clear hb1
  go_wp2_with fail
  show Calls _ _ _ (loopW w1) _
  obtain ⟨hL, hz, hr0, hr1, hr2⟩ := loopW_rd w1
  generalize loopW w1 = W at hL hz hr0 hr1 hr2
  have hL' := Lib.hid (bthen hb1'.out hL)
  have hr0' := Lib.hid hr0
  have hr1' := Lib.hid hr1
  have hr2' := Lib.hid hr2
  clear hL hr0 hr1 hr2 hb1'
  refine (l4ret 4 W).mono ?_
  rintro e w2 ⟨t, rfl, htp, htr, hb2⟩
  have htp' := Lib.hid htp
  have htr' := Lib.hid htr
  have hb2' := Lib.hid hb2
  clear htp htr hb2
  go_wp2_with fail
  have hg3 := lay_at kBlock 88 w2 [loopB0 w1.heap.size, loopB1 w1.heap.size, loopB2 w1.heap.size, ⟨nilSl, nilSl, t⟩] w2.heap.size rfl (by simp) (fun x hx => by
    simp only [List.mem_cons, List.not_mem_nil, or_false] at hx
    rcases hx with rfl | rfl | rfl | rfl
    · exact kBlock.below hr0'.out hb2'.out
    · exact kBlock.below hr1'.out hb2'.out
    · exact kBlock.below hr2'.out hb2'.out
    · exact ⟨Kd.nil_rd _ _, Kd.nil_rd _ _, htr'.out⟩)
  have hb3 := lay_below kBlock 88 w2 [loopB0 w1.heap.size, loopB1 w1.heap.size, loopB2 w1.heap.size, ⟨nilSl, nilSl, t⟩]
  have hz3 := lay_size kBlock 88 w2 [loopB0 w1.heap.size, loopB1 w1.heap.size, loopB2 w1.heap.size, ⟨nilSl, nilSl, t⟩]
  show Calls _ _ _ (((lay kBlock 88 w2 [loopB0 w1.heap.size, loopB1 w1.heap.size, loopB2 w1.heap.size, ⟨nilSl, nilSl, t⟩]).alloc (.cells #[.int .i64 2, .slice (some ⟨w2.heap.size, 0, none⟩) 4 4] 75)).alloc (.cells #[.int .i32 (n % 61), .int .i32 a] 21)) _
  obtain ⟨w3, hw3⟩ : ∃ w3, w3 = lay kBlock 88 w2 [loopB0 w1.heap.size, loopB1 w1.heap.size, loopB2 w1.heap.size, ⟨nilSl, nilSl, t⟩] := ⟨_, rfl⟩
  rw [← hw3] at hg3 hb3 hz3
  rw [← hw3, ← hm, ← hlim]
  have hX : Below w3.heap.size w3 ((w3.alloc (.cells #[.int .i64 2, .slice (some ⟨w2.heap.size, 0, none⟩) 4 4] 75)).alloc (.cells #[.int .i32 (m : Int), .int .i32 a] 21)) := bal (bal (Below.refl _ _) _) _
  have hx1 : kW.sl.rd ((w3.alloc (.cells #[.int .i64 2, .slice (some ⟨w2.heap.size, 0, none⟩) 4 4] 75)).alloc (.cells #[.int .i32 (m : Int), .int .i32 a] 21)) ⟨some ⟨w2.heap.size + 1 + 1, 0, none⟩, 2, [(m : Int), a]⟩ := lay_at kW 21 (w3.alloc (.cells #[.int .i64 2, .slice (some ⟨w2.heap.size, 0, none⟩) 4 4] 75)) [(m : Int), a] (w2.heap.size + 1 + 1) (by simp [hz3]) (by simp) (fun _ _ => trivial)
  have hfp : Func.p ⟨2, atB w2.heap.size [loopB0 w1.heap.size, loopB1 w1.heap.size, loopB2 w1.heap.size, ⟨nilSl, nilSl, t⟩]⟩ = Floop := by
    show Jq.Func.mk 2 [Block.p (loopB0 w1.heap.size), Block.p (loopB1 w1.heap.size), Block.p (loopB2 w1.heap.size), ⟨[], [], t.p⟩] = Floop
    rw [htp'.out]
    rfl
  have hB3 := Lib.hid (bthen (bthen (bthen hL'.out hb2'.out) hb3) hX)
  have hm60 : m ≤ 60 := by omega
  have hlb : 0 ≤ lim ∧ lim ≤ 1000 := by omega
  refine (inRunL ⟨2, atB w2.heap.size [loopB0 w1.heap.size, loopB1 w1.heap.size, loopB2 w1.heap.size, ⟨nilSl, nilSl, t⟩]⟩ ⟨⟨some ⟨w2.heap.size + 1 + 1, 0, none⟩, 2, [(m : Int), a]⟩, nilSl, nilSl, lim⟩ Floop ⟨[(m : Int), a], [], [], lim⟩ (loopOut m a lim) _ hfp rfl (kBlock.sl.below hg3 hX) ⟨hx1, Kd.nil_rd _ _, Kd.nil_rd _ _⟩ (runs_loop m hm60 a lim ha hlb.1 hlb.2)).mono ?_
  rintro e w4 ⟨⟨of, ov, om, oc, os⟩, rfl, hop, -, -, -, hb4⟩
  have hB4 := Lib.hid (bthen hB3.out hb4)
  clear hx1 hfp hg3 hb3 hz3 hX hb4 hB3 hL' hr0' hr1' hr2' htp' htr' hb2' hz
  unfold loopOut at hop
  by_cases hlt : lim < 5 + 6 * (m : Int)
  · rw [if_pos hlt] at hop
    injection hop with e1 e2 e3 e4 e5
    clear e3 e4
    have e1 : of = 3 := e1
    have e2 : ov = 0 := e2
    have e5 : os = lim := e5
    subst e1 e2 e5
    have hlf : decide (st % 512 < 5 + 6 * (m : Int)) = true := by rw [← hlim]; simpa using hlt
    clear hlt hm hn hst
    subst hlim
    go_wp2_with fail
    go_ret
    exact ⟨rfl, bal hB4.out _⟩
  · rw [if_neg hlt] at hop
    injection hop with e1 e2 e3 e4 e5
    clear e3 e4
    have e1 : of = 1 := e1
    have e2 : ov = wrap32 (a + tri m) := e2
    have e5 : os = 5 + 6 * (m : Int) := e5
    subst e1 e2 e5
    have hlf : decide (st % 512 < 5 + 6 * (m : Int)) = false := by rw [← hlim]; simpa using hlt
    have hq : wrap32 (a + wrap32 ((wrap32 ((m : Int) * ((m : Int) - 1))).tdiv 2)) = wrap32 (a + tri m) := by
      have h1 := tri_eq m
      have h2 := tri_bound m hm60
      rw [← h1, Jq.wrap_small (x := 2 * tri m) (by omega) (by omega), Int.mul_tdiv_cancel_left (tri m) (by decide : (2 : Int) ≠ 0), Jq.wrap_small (x := tri m) (by omega) (by omega)]
    clear hlt hm hn hst
    subst hlim
    go_wp2_with fail
    go_ret
    exact ⟨rfl, bal hB4.out _⟩
end Go.Proofs.Ytjlehpgfhlkjlaa
