/-
  The walk of the law InterpWords.
-/
import Derived.Test.YtjlehpgfhlkjlaaPL4W
set_option linter.all false
namespace Go.Proofs.Ytjlehpgfhlkjlaa
open Go.RowKit Jq
set_option linter.unusedVariables false
set_option maxRecDepth 1000000 in
set_option maxHeartbeats 4000000 in
theorem walkInterpWords (w : World) (a : Int) (oa : (Lit.int .i32 a).wf = true) (b : Int) (ob : (Lit.int .i32 b).wf = true) :
    Calls Try.prog 9 #[.int .i32 a, .int .i32 b] w fun e w' => e = .returned (.bool true) ∧ Below w.heap.size w w' := by
  clear oa ob
  go_enter Try.func9, Try.ntmps9
  go_wp2_with fail
  refine (l4shown w).mono ?_
  rintro e w1 ⟨rfl, hb1⟩
  have hb1' := Lib.hid hb1
  clear hb1
  go_wp2_with fail
  go_loopg [6] (13) (fun g q wr => ∃ (k : Nat), q = .int .i64 ((k : Int) + 2) ∧ k ≤ 13 ∧ g = 13 - k ∧ Below w.heap.size w wr)
  case atStart => exact ⟨0, rfl, by omega, rfl, hb1'.out⟩
  case round =>
    obtain ⟨k, rfl, hk, hg, hB⟩ := hrel
    obtain ⟨op, hop⟩ : ∃ op : Int, op = (k : Int) + 2 := ⟨_, rfl⟩
    have hgk := Lib.hid hg
    have hB' := Lib.hid hB
    rw [← hop]
    have hop' := Lib.hid hop
    clear hg hB
    by_cases hlt : k < 13
    · have ho1 : 2 ≤ op := by omega
      have ho2 : op ≤ 14 := by omega
      clear hop
      go_wp2_with fail
      have hBa : Below wr.heap.size wr (wr.alloc (.cells #[.int .i64 0, .int .i64 1] 3)) := bal (Below.refl _ _) _
      have hA : kI.sl.rd (wr.alloc (.cells #[.int .i64 0, .int .i64 1] 3)) ⟨some ⟨wr.heap.size, 0, none⟩, 2, [0, 1]⟩ := (own_lit (.int .i64) 3 0 wr [0, 1] (by simp) (by simp)).rd
      have hI := lit_1 kIns (wr.alloc (.cells #[.int .i64 0, .int .i64 1] 3)) ⟨op, 2, 0, ⟨some ⟨wr.heap.size, 0, none⟩, 2, [0, 1]⟩, 0⟩ 78 (wr.heap.size + 1) (by simp) hA
      obtain ⟨w2, hw2⟩ : ∃ w2, w2 = (wr.alloc (.cells #[.int .i64 0, .int .i64 1] 3)).alloc (.cells (kIns.cs ⟨op, 2, 0, ⟨some ⟨wr.heap.size, 0, none⟩, 2, [0, 1]⟩, 0⟩).toArray 78) := ⟨_, rfl⟩
      have hB2 := Lib.hid (show Below w.heap.size w w2 by rw [hw2]; exact bal (bal hB'.out _) _)
      rw [← hw2] at hI
      have hI' := Lib.hid hI
      show Calls _ _ _ ((wr.alloc (.cells #[.int .i64 0, .int .i64 1] 3)).alloc (.cells (kIns.cs ⟨op, 2, 0, ⟨some ⟨wr.heap.size, 0, none⟩, 2, [0, 1]⟩, 0⟩).toArray 78)) _
      rw [← hw2]
      clear hw2 hBa hA hI
      refine (l4ret 2 w2).mono ?_
      rintro e w3 ⟨t, rfl, htp, htr, hb3⟩
      have htp' := Lib.hid htp
      have htr' := Lib.hid htr
      have hb3' := Lib.hid hb3
      clear htp htr hb3
      go_wp2_with fail
      refine (l4one 2 ⟨some ⟨wr.heap.size + 1, 0, none⟩, 1, [⟨op, 2, 0, ⟨some ⟨wr.heap.size, 0, none⟩, 2, [0, 1]⟩, 0⟩]⟩ t w3 (kIns.sl.below hI'.out hb3'.out) htr'.out).mono ?_
      rintro e w4 ⟨f, rfl, hfp, hfr, hb4⟩
      have hfp' := Lib.hid (show f.p = Fop op by rw [hfp, htp'.out]; rfl)
      have hfr' := Lib.hid hfr
      have hB4 := Lib.hid (bthen (bthen hB2.out hb3'.out) hb4)
      clear hfp hfr hb4
      go_wp2_with fail
      have hX1 : Below w4.heap.size w4 (w4.alloc (.cells #[.int .i32 a, .int .i32 b] 21)) := bal (Below.refl _ _) _
      have hx1 : kW.sl.rd (w4.alloc (.cells #[.int .i32 a, .int .i32 b] 21)) ⟨some ⟨w4.heap.size, 0, none⟩, 2, [a, b]⟩ := (own_lit (.int .i32) 21 0 w4 [a, b] (by simp) (by simp)).rd
      refine (inRunL f ⟨⟨some ⟨w4.heap.size, 0, none⟩, 2, [a, b]⟩, nilSl, nilSl, 2⟩ (Fop op) ⟨[a, b], [], [], 2⟩ (opOut op a b) _ hfp'.out rfl (kFunc.below hfr'.out hX1) ⟨hx1, Kd.nil_rd _ _, Kd.nil_rd _ _⟩ (runs_op op a b ho1 ho2)).mono ?_
      rintro e w5 ⟨⟨of, ov, om, oc, os⟩, rfl, hopp, -, -, -, hb5⟩
      have hB5 := Lib.hid (bthen hB4.out (bthen hX1 hb5))
      have hopp' := Lib.hid hopp
      clear hX1 hx1 hb5 hopp
      go_wp2_with fail
      have hbo : (w5.alloc (.cells #[.int .i64 of, .int .i32 ov, om.val, oc.val, .int .i64 os] 33)).heap[w5.heap.size]? = some (.cells [.int .i64 of, .int .i32 ov, om.val, oc.val, .int .i64 os].toArray 33 (0, 0)) := heap_alloc_new _ _
      refine (wordDo op a b _).mono ?_
      rintro e w6 ⟨rfl, hb6⟩
      have hB6 := Lib.hid (bthen (bal hB5.out (.cells #[.int .i64 of, .int .i32 ov, om.val, oc.val, .int .i64 os] 33)) hb6)
      have hbo6 := bx_go hbo hb6
      have c0 : w6.cell? ⟨w5.heap.size, 0, none⟩ = some (.int .i64 of) := bx_cell hbo6 rfl
      have c1 : w6.cell? ⟨w5.heap.size, 1, none⟩ = some (.int .i32 ov) := bx_cell hbo6 rfl
      have c4 : w6.cell? ⟨w5.heap.size, 4, none⟩ = some (.int .i64 os) := bx_cell hbo6 rfl
      have hop2 := hopp'.out
      unfold opOut at hop2
      clear hbo hb6 hbo6
      cases hok : (wdo op a b).isSome with
      | true =>
        rw [hok, if_pos rfl] at hop2
        injection hop2 with e1 e2 e3 e4 e5
        clear e3 e4
        have e1 : of = 1 := e1
        have e2 : ov = (wdo op a b).getD 0 := e2
        have e5 : os = 2 := e5
        subst e1 e2 e5
        clear hok
        go_wp2_with fail
        go_roundg (13 - (k + 1))
        case measure => have := hgk.out; omega
        case rel => exact ⟨k + 1, by rw [hop'.out]; go_num, by omega, rfl, hB6.out⟩
      | false =>
        rw [hok, if_neg (by simp)] at hop2
        injection hop2 with e1 e2 e3 e4 e5
        clear e3 e4
        have e1 : of = 2 := e1
        have e2 : ov = -1 := e2
        have e5 : os = 1 := e5
        subst e1 e2 e5
        clear hok
        go_wp2_with fail
        go_roundg (13 - (k + 1))
        case measure => have := hgk.out; omega
        case rel => exact ⟨k + 1, by rw [hop'.out]; go_num, by omega, rfl, hB6.out⟩
    · have ho3 : op = 15 := by omega
      clear hop
      subst ho3
      go_wp2_with fail
      have hA : kI.sl.rd (wr.alloc (.cells #[.int .i64 0, .int .i64 1] 3)) ⟨some ⟨wr.heap.size, 0, none⟩, 2, [0, 1]⟩ := (own_lit (.int .i64) 3 0 wr [0, 1] (by simp) (by simp)).rd
      have hI := lit_1 kIns (wr.alloc (.cells #[.int .i64 0, .int .i64 1] 3)) ⟨18, 2, 3, ⟨some ⟨wr.heap.size, 0, none⟩, 2, [0, 1]⟩, 0⟩ 78 (wr.heap.size + 1) (by simp) hA
      obtain ⟨w2, hw2⟩ : ∃ w2, w2 = (wr.alloc (.cells #[.int .i64 0, .int .i64 1] 3)).alloc (.cells (kIns.cs ⟨18, 2, 3, ⟨some ⟨wr.heap.size, 0, none⟩, 2, [0, 1]⟩, 0⟩).toArray 78) := ⟨_, rfl⟩
      have hB2 := Lib.hid (show Below w.heap.size w w2 by rw [hw2]; exact bal (bal hB'.out _) _)
      rw [← hw2] at hI
      have hI' := Lib.hid hI
      show Calls _ _ _ ((wr.alloc (.cells #[.int .i64 0, .int .i64 1] 3)).alloc (.cells (kIns.cs ⟨18, 2, 3, ⟨some ⟨wr.heap.size, 0, none⟩, 2, [0, 1]⟩, 0⟩).toArray 78)) _
      rw [← hw2]
      clear hw2 hA hI
      refine (l4ret 2 w2).mono ?_
      rintro e w3 ⟨t, rfl, htp, htr, hb3⟩
      have htp' := Lib.hid htp
      have htr' := Lib.hid htr
      have hb3' := Lib.hid hb3
      clear htp htr hb3
      go_wp2_with fail
      refine (l4one 2 ⟨some ⟨wr.heap.size + 1, 0, none⟩, 1, [⟨18, 2, 3, ⟨some ⟨wr.heap.size, 0, none⟩, 2, [0, 1]⟩, 0⟩]⟩ t w3 (kIns.sl.below hI'.out hb3'.out) htr'.out).mono ?_
      rintro e w4 ⟨f, rfl, hfp, hfr, hb4⟩
      have hfp' := Lib.hid (show f.p = Fw 2 by rw [hfp, htp'.out]; rfl)
      have hfr' := Lib.hid hfr
      have hB4 := Lib.hid (bthen (bthen hB2.out hb3'.out) hb4)
      have hI4 := Lib.hid (kIns.sl.below (kIns.sl.below hI'.out hb3'.out) hb4)
      clear hfp hfr hb4
      go_wp2_with fail
      have hX1 : Below w4.heap.size w4 (w4.alloc (.cells #[.int .i32 a, .int .i32 b] 21)) := bal (Below.refl _ _) _
      have hx1 : kW.sl.rd (w4.alloc (.cells #[.int .i32 a, .int .i32 b] 21)) ⟨some ⟨w4.heap.size, 0, none⟩, 2, [a, b]⟩ := (own_lit (.int .i32) 21 0 w4 [a, b] (by simp) (by simp)).rd
      refine (inRunL f ⟨⟨some ⟨w4.heap.size, 0, none⟩, 2, [a, b]⟩, nilSl, nilSl, 2⟩ (Fw 2) ⟨[a, b], [], [], 2⟩ ⟨1, wlo a b, [], [], 2⟩ _ hfp'.out rfl (kFunc.below hfr'.out hX1) ⟨hx1, Kd.nil_rd _ _, Kd.nil_rd _ _⟩ (runs_lo a b)).mono ?_
      rintro e w5 ⟨⟨of, ov, om, oc, os⟩, rfl, hop2, -, -, -, hb5⟩
      injection hop2 with e1 e2 e3 e4 e5
      clear e3 e4
      have e1 : of = 1 := e1
      have e2 : ov = wlo a b := e2
      have e5 : os = 2 := e5
      subst e1 e2 e5
      have hB5 := Lib.hid (bthen hB4.out (bthen hX1 hb5))
      have hI5 := Lib.hid (kIns.sl.below hI4.out (bthen hX1 hb5))
      clear hX1 hx1 hb5
      go_wp2_with fail
      have hbo : (w5.alloc (.cells #[.int .i64 1, .int .i32 (wlo a b), om.val, oc.val, .int .i64 2] 33)).heap[w5.heap.size]? = some (.cells [.int .i64 1, .int .i32 (wlo a b), om.val, oc.val, .int .i64 2].toArray 33 (0, 0)) := heap_alloc_new _ _
      have hB6 := Lib.hid (bal hB5.out (.cells #[.int .i64 1, .int .i32 (wlo a b), om.val, oc.val, .int .i64 2] 33))
      have hI6 := Lib.hid (kIns.sl.below hI5.out (bal (Below.refl _ _) (.cells #[.int .i64 1, .int .i32 (wlo a b), om.val, oc.val, .int .i64 2] 33)))
      refine (l4ret 3 _).mono ?_
      rintro e w7 ⟨t2, rfl, htp2, htr2, hb7⟩
      have htp2' := Lib.hid htp2
      have htr2' := Lib.hid htr2
      have hb7' := Lib.hid hb7
      have hbo7 := Lib.hid (bx_go hbo hb7)
      clear htp2 htr2 hb7 hbo
      go_wp2_with fail
      refine (l4one 2 ⟨some ⟨wr.heap.size + 1, 0, none⟩, 1, [⟨18, 2, 3, ⟨some ⟨wr.heap.size, 0, none⟩, 2, [0, 1]⟩, 0⟩]⟩ t2 w7 (kIns.sl.below hI6.out hb7'.out) htr2'.out).mono ?_
      rintro e w8 ⟨f2, rfl, hfp2, hfr2, hb8⟩
      have hfp2' := Lib.hid (show f2.p = Fw 3 by rw [hfp2, htp2'.out]; rfl)
      have hfr2' := Lib.hid hfr2
      have hB8 := Lib.hid (bthen (bthen hB6.out hb7'.out) hb8)
      have hbo8 := Lib.hid (bx_go hbo7.out hb8)
      clear hfp2 hfr2 hb8
      go_wp2_with fail
      have hX1 : Below w8.heap.size w8 (w8.alloc (.cells #[.int .i32 a, .int .i32 b, .int .i32 9] 21)) := bal (Below.refl _ _) _
      have hx1 : kW.sl.rd (w8.alloc (.cells #[.int .i32 a, .int .i32 b, .int .i32 9] 21)) ⟨some ⟨w8.heap.size, 0, none⟩, 3, [a, b, 9]⟩ := (own_lit (.int .i32) 21 0 w8 [a, b, 9] (by simp) (by simp)).rd
      refine (inRunL f2 ⟨⟨some ⟨w8.heap.size, 0, none⟩, 3, [a, b, 9]⟩, nilSl, nilSl, 9⟩ (Fw 3) ⟨[a, b, 9], [], [], 9⟩ ⟨1, whi a b, [], [], 2⟩ _ hfp2'.out rfl (kFunc.below hfr2'.out hX1) ⟨hx1, Kd.nil_rd _ _, Kd.nil_rd _ _⟩ (runs_hi a b)).mono ?_
      rintro e w9 ⟨⟨of2, ov2, om2, oc2, os2⟩, rfl, hop3, -, -, -, hb9⟩
      injection hop3 with e1 e2 e3 e4 e5
      clear e3 e4
      have e1 : of2 = 1 := e1
      have e2 : ov2 = whi a b := e2
      have e5 : os2 = 2 := e5
      subst e1 e2 e5
      have hB9 := Lib.hid (bthen hB8.out (bthen hX1 hb9))
      have hbo9 := bx_go hbo8.out (bthen hX1 hb9)
      have c0 : w9.cell? ⟨w5.heap.size, 0, none⟩ = some (.int .i64 1) := bx_cell hbo9 rfl
      have c1 : w9.cell? ⟨w5.heap.size, 1, none⟩ = some (.int .i32 (wlo a b)) := bx_cell hbo9 rfl
      have hl9 : w5.heap.size < w9.heap.size := lt_of_block hbo9
      clear hX1 hx1 hb9 hbo9
      go_wp2_with fail
      refine (wordWide a b _).mono ?_
      rintro e w10 ⟨rfl, rfl⟩
      go_wp2_with fail
      go_ret
      exact ⟨rfl, bal hB9.out _⟩
end Go.Proofs.Ytjlehpgfhlkjlaa
