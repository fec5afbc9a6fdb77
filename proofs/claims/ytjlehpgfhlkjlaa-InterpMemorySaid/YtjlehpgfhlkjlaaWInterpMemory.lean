/-
  The walk of the law InterpMemory.
-/
import Derived.Test.YtjlehpgfhlkjlaaPL4M
import Derived.Test.YtjlehpgfhlkjlaaLit
import Derived.Test.YtjlehpgfhlkjlaaRefW
import Derived.Test.YtjlehpgfhlkjlaaOpen
set_option linter.all false
namespace Go.Proofs.Ytjlehpgfhlkjlaa
open Go.RowKit Jq
set_option linter.unusedVariables false
set_option maxRecDepth 1000000 in
set_option maxHeartbeats 4000000 in
theorem walkInterpMemory (w : World) (s : Sl Int) (hs : kW.sl.rd w s) (os : s.l.length * 4 ≤ 140737488351232 ∧ ∀ x, x ∈ s.l → Fits32 x) (a : Int) (oa : (Lit.int .i32 a).wf = true) (v : Int) (ov : (Lit.int .i32 v).wf = true) :
    Calls Try.prog 10 #[s.val, .int .i32 a, .int .i32 v] w fun e w' => e = .returned (.bool true) ∧ Below w.heap.size w w' := by
  have hbd := Kd.bound hs
  have ha32 := bounds_i32 oa
  have ha : wrap32 a = a := by unfold wrap32; omega
  have ha64 : wrap64 a = a := by unfold wrap64; omega
  clear oa ov
  obtain ⟨n, hmin, hnl, hn⟩ : ∃ n : Nat, min (s.l.length : Int) 20 = (n : Int) ∧ n ≤ s.l.length ∧ n ≤ 20 := by
    by_cases h : s.l.length ≤ 20
    · exact ⟨s.l.length, by omega, Nat.le_refl _, h⟩
    · exact ⟨20, by omega, by omega, Nat.le_refl _⟩
  have h1 := run_take (P := Try.prog) 25 21 1 Try.underlying25 (by kernel_rfl) s n hnl (Kd.cap_ hs)
  have hsz : (s.tk n).l.length ≤ 20 := by simp [Sl.tk]; omega
  have hrd := tk_rd hs n
  obtain ⟨u, hu⟩ : ∃ u, s.tk n = u := ⟨_, rfl⟩
  rw [hu] at h1 hsz hrd
  have hrd' := Lib.hid hrd
  have hsz' := Lib.hid hsz
  have ha' := Lib.hid ha
  have ha64' := Lib.hid ha64
  have ha32' := Lib.hid ha32
  clear hu hrd hs hsz ha ha64 ha32
  go_enter Try.func10, Try.ntmps10
  go_wp2_with fail
  refine (l4shown w).mono ?_
  rintro e w1 ⟨rfl, hb1⟩
  have hb1' := Lib.hid hb1
  clear hb1
  go_wp2_with (at_builtin; go_must (refine wpList_app kW (by decide) kW_one w1.heap.size rfl 25 21 _ _ rfl (.int .i32 0) 4 Try.underlying25 infoW rfl (by decide) _ ⟨some ⟨w1.heap.size, 0, none⟩, 0, []⟩ u rfl rfl (own_lit (.int .i32) _ _ w1 [] (Nat.le_refl _) (by simp)) (kW.sl.below hrd'.out (bal hb1'.out _)) (by simp) kW_apart (by have := hsz'.out; simp; omega) ?_; intro u0 w2 hown hl hg hat; have hown' := Lib.hid hown; have hl' := Lib.hid hl; have hg' := Lib.hid hg; clear hown hl hg hat))
  obtain ⟨imm, himm⟩ : ∃ imm, imm = bits BinOp.xor IntKind.i32 v a := ⟨_, rfl⟩
  rw [← himm]
  clear himm
  have hb2 := (bal hb1'.out (.cells #[] 21)).grown hg'.out (by have := hb1'.out.size; simp; omega) (by intro k hk; have := hb1'.out.size; simp [Value.ownBlock] at hk; omega)
  have hb2' := Lib.hid hb2
  have hu20 := Lib.hid (show u0.l.length ≤ 20 by rw [hl'.out]; simpa using hsz'.out)
  have a1 := lay_at kI 3 w2 [0, 1] w2.heap.size rfl (by simp) kI_all
  have b1 := lay_below kI 3 w2 [0, 1]
  have z1 := lay_size kI 3 w2 [0, 1]
  have a2 := lay_at kI 3 (lay kI 3 w2 [0, 1]) [0] (w2.heap.size + 1) (by rw [z1]) (by simp) kI_all
  have b2 := lay_below kI 3 (lay kI 3 w2 [0, 1]) [0]
  have z2 := lay_size kI 3 (lay kI 3 w2 [0, 1]) [0]
  have a3 := lay_at kIns 78 (lay kI 3 (lay kI 3 w2 [0, 1]) [0]) [⟨16, 0, 0, atB w2.heap.size [0, 1], imm⟩, ⟨15, 2, 0, atB (w2.heap.size + 1) [0], imm⟩] (w2.heap.size + 1 + 1) (by rw [z2, z1]) (by simp) (fun x hx => by
    simp only [List.mem_cons, List.not_mem_nil, or_false] at hx
    rcases hx with rfl | rfl
    · exact kI.sl.below a1 b2
    · exact a2)
  have b3 := lay_below kIns 78 (lay kI 3 (lay kI 3 w2 [0, 1]) [0]) [⟨16, 0, 0, atB w2.heap.size [0, 1], imm⟩, ⟨15, 2, 0, atB (w2.heap.size + 1) [0], imm⟩]
  show Calls _ _ _ (lay kIns 78 (lay kI 3 (lay kI 3 w2 [0, 1]) [0]) [⟨16, 0, 0, atB w2.heap.size [0, 1], imm⟩, ⟨15, 2, 0, atB (w2.heap.size + 1) [0], imm⟩]) _
  obtain ⟨w3, hw3⟩ : ∃ w3, w3 = (lay kIns 78 (lay kI 3 (lay kI 3 w2 [0, 1]) [0]) [⟨16, 0, 0, atB w2.heap.size [0, 1], imm⟩, ⟨15, 2, 0, atB (w2.heap.size + 1) [0], imm⟩]) := ⟨_, rfl⟩
  rw [← hw3] at a3 b3 ⊢
  have hI := Lib.hid a3
  have hb3 := Lib.hid (bthen b1 (bthen b2 b3))
  clear hw3 a1 b1 z1 a2 b2 z2 a3 b3 hb2 hl' hg' hmin hnl hn h1 hrd' hsz' hbd os
  refine (l4ret 2 w3).mono ?_
  rintro e w4 ⟨t, rfl, htp, htr, hb4⟩
  have htp' := Lib.hid htp
  have htr' := Lib.hid htr
  have hb4' := Lib.hid hb4
  clear htp htr hb4
  go_wp2_with fail
  refine (l4one 2 ⟨some ⟨w2.heap.size + 1 + 1, 0, none⟩, 2, [⟨16, 0, 0, atB w2.heap.size [0, 1], imm⟩, ⟨15, 2, 0, atB (w2.heap.size + 1) [0], imm⟩]⟩ t w4 (kIns.sl.below hI.out hb4'.out) htr'.out).mono ?_
  rintro e w5 ⟨f, rfl, hfp, hfr, hb5⟩
  have hfp' := Lib.hid (show f.p = Fmem imm by rw [hfp, htp'.out]; rfl)
  have hfr' := Lib.hid hfr
  have hb5' := Lib.hid (bthen hb3.out (bthen hb4'.out hb5))
  clear hfp hfr hb5 htp' htr' hb4' hI hb3
  go_wp2_with fail
  have hX : Below w5.heap.size w5 (((w5.alloc (.cells #[.int .i64 f.params, f.blocks.val] 75)).alloc (.cells #[.int .i32 (wrap32 (a - imm)), .int .i32 v] 21)).alloc (.cells #[.slice (some ⟨w5.heap.size + 1, 0, none⟩) 2 2, u0.val, .slice none 0 0, .int .i64 9] 27)) := bal (bal (bal (Below.refl _ _) _) _) _
  have hx1 : kW.sl.rd (((w5.alloc (.cells #[.int .i64 f.params, f.blocks.val] 75)).alloc (.cells #[.int .i32 (wrap32 (a - imm)), .int .i32 v] 21)).alloc (.cells #[.slice (some ⟨w5.heap.size + 1, 0, none⟩) 2 2, u0.val, .slice none 0 0, .int .i64 9] 27)) ⟨some ⟨w5.heap.size + 1, 0, none⟩, 2, [wrap32 (a - imm), v]⟩ := kW.sl.below (lay_at kW 21 (w5.alloc (.cells #[.int .i64 f.params, f.blocks.val] 75)) [wrap32 (a - imm), v] (w5.heap.size + 1) (by simp) (by simp) (fun _ _ => trivial)) (bal (Below.refl _ _) _)
  refine (inRunL f ⟨⟨some ⟨w5.heap.size + 1, 0, none⟩, 2, [wrap32 (a - imm), v]⟩, u0, nilSl, 9⟩ (Fmem imm) ⟨[wrap32 (a - imm), v], u0.l, [], 9⟩ (memOut u0.l a v) _ hfp'.out rfl (kFunc.below hfr'.out hX) ⟨hx1, kW.sl.below hown'.out.rd (bthen hb5'.out hX), Kd.nil_rd _ _⟩ (runs_mem imm a v u0.l ha'.out hu20.out)).mono ?_
  rintro e w6 ⟨⟨of, ov, om, oc, os⟩, rfl, hop, hom, -, -, hb6⟩
  have hom' := Lib.hid hom
  have hb26 := Lib.hid (bthen (bthen hb5'.out hX) hb6)
  clear hX hx1 hom hb6 hb5' hfp' hfr'
  unfold memOut at hop
  have hbw : w2.heap.size ≤ w6.heap.size := hb26.out.size
  cases hk : ldOk u0.l a with
  | false =>
    have hk' := Lib.hid hk
    rw [hk, if_neg (by simp)] at hop
    injection hop with e1 e2 e3 e4 e5
    clear e4
    have e1 : of = 2 := e1
    have e2 : ov = -2 := e2
    have e3' := Lib.hid (show om.l = u0.l from e3)
    have e5 : os = 1 := e5
    subst e1 e2 e5
    clear e3 hk
    go_wp2_with fail
    obtain ⟨w7, hw7⟩ : ∃ w7, w7 = (w6.alloc (.cells #[.int .i64 2, .int .i32 (-2), om.val, oc.val, .int .i64 1] 33)) := ⟨_, rfl⟩
    have hb67 : Below w6.heap.size w6 w7 := by rw [hw7]; exact bal (Below.refl _ _) _
    have hbo := Lib.hid (show w7.heap[w6.heap.size]? = some (.cells [.int .i64 2, .int .i32 (-2), om.val, oc.val, .int .i64 1].toArray 33 (0, 0)) by rw [hw7]; exact heap_alloc_new _ _)
    have hz7 : w7.heap.size = w6.heap.size + 1 := by rw [hw7]; simp
    show Calls _ _ _ (w6.alloc (.cells #[.int .i64 2, .int .i32 (-2), om.val, oc.val, .int .i64 1] 33)) _
    rw [← hw7]
    clear hw7
    have hu7 := Lib.hid (hown'.out.below (bthen hb26.out hb67))
    have hm7 := Lib.hid (hom'.out.below hb67)
    have hB7 := Lib.hid (bthen hb2'.out (bthen hb26.out hb67))
    clear hb67 hom' hown' hb26 hb2'
    refine (interpLoad u0 a w7 hu7.out.rd ha64'.out).mono ?_
    rintro e w8 ⟨rfl, rfl⟩
    rw [hk'.out]
    rw [show ldV u0.l a = 0 from by unfold ldV; rw [if_neg (by rw [hk'.out]; simp)]]
    have hno : ¬ (0 ≤ a ∧ a < (u0.l.length : Int)) := fun h => by have := (ldOk_iff u0.l a).2 h; rw [hk'.out] at this; exact absurd this (by simp)
    clear hz7 hbw
    have hw64 := ha64'.out
    have hcs : (a < 0) ∨ (0 ≤ a ∧ (u0.l.length : Int) ≤ a) := by omega
    clear hno
    rcases hcs with hneg | ⟨hpos, hbig⟩
    all_goals
      first
        | have g1 : decide (0 ≤ a) = false := by simpa using hneg
        | have g1 : decide (0 ≤ a) = true := by simpa using hpos
      first
        | have g2 : decide (a < (u0.l.length : Int)) = false := by simpa using hbig
        | skip
      go_wp2_with (at_builtin; go_must (refine wpList_app kW (by decide) kW_one w7.heap.size rfl 25 21 _ _ rfl (.int .i32 0) 4 Try.underlying25 infoW rfl (by decide) _ ⟨some ⟨w7.heap.size, 0, none⟩, 0, []⟩ u0 rfl rfl (own_lit (.int .i32) _ _ w7 [] (Nat.le_refl _) (by simp)) (kW.sl.below hu7.out.rd (bal (Below.refl _ _) _)) (by simp) kW_apart (by have := hu20.out; simp; omega) ?_; intro q w8 hown hl hg hat; have hq := Lib.hid hown; have hql := Lib.hid (show q.l = u0.l by rw [hl]; rfl); have hb78 := (bal (Below.refl _ _) (.cells #[] 21)).grown hg (by simp) (by intro k hk; simp [Value.ownBlock] at hk; omega); have hbo8 := bx_go hbo.out hb78; have c0 := bx_cell (j := 0) hbo8 rfl; have c1 := bx_cell (j := 1) hbo8 rfl; have c2 := bx_cell (j := 2) hbo8 rfl; have c4 := bx_cell (j := 4) hbo8 rfl; have hl8 := lt_of_block hbo8; have hbo8' := Lib.hid hbo8; have hb78' := Lib.hid hb78; clear hown hl hg hat hbo8 hb78))
      refine (refWords om q w8 (kW.sl.below hm7.out.rd hb78'.out) hq.out.rd).mono ?_
      rintro e w9 ⟨rfl, hb89⟩
      rw [show (om.l == q.l) = true by rw [e3'.out, hql.out]; simp]
      have hb79 := Lib.hid (bthen hb78'.out hb89)
      have hq9 := Lib.hid (hq.out.below hb89)
      clear hb89 c0 c1 c2 c4 hl8 hq hbo8'
      go_wp2_with fail
      refine (interpStore q a v w7.heap.size w9 hq9.out ha64'.out).mono ?_
      rintro e w10 ⟨rfl, hq10, hch, hz10⟩
      rw [show ldOk q.l a = false by rw [hql.out]; exact hk'.out]
      have hb710 := Lib.hid (((Chg.of (F := fun k => some k = q.val.ownBlock) hb79.out).trans hch).toBelow fun k hk => hq9.out.ge k hk)
      have hq10' := Lib.hid hq10
      clear hq10 hch hz10 hq9 hb79
      go_wp2_with fail
      have hcl := refWords (q.wl (mset q.l a v)) u0 w10 hq10'.out.rd (kW.sl.below hu7.out.rd hb710.out)
      rw [Sl.wl_val (by simp)] at hcl
      refine hcl.mono ?_
      rintro e w11 ⟨rfl, hb11⟩
      have hms : mset q.l a v = q.l := by rw [mset, if_neg (by rw [← ldOk_iff, hql.out, hk'.out]; simp)]
      rw [show ((q.wl (mset q.l a v)).l == u0.l) = true by show (mset q.l a v == u0.l) = true; rw [hms, hql.out]; simp]
      have hb11' := Lib.hid (bthen hb710.out hb11)
      clear hb11 hcl hms
      go_wp2_with fail
      go_ret
      exact ⟨rfl, bthen hB7.out hb11'.out⟩
  | true =>
    have hk' := Lib.hid hk
    rw [hk, if_pos rfl] at hop
    injection hop with e1 e2 e3 e4 e5
    clear e4
    have e1 : of = 1 := e1
    have e2 : ov = v := e2
    have e3' := Lib.hid (show om.l = mset u0.l a v from e3)
    have e5 : os = 3 := e5
    subst e1 e5
    obtain rfl : v = ov := e2.symm
    clear e3 hk
    go_wp2_with fail
    obtain ⟨w7, hw7⟩ : ∃ w7, w7 = (w6.alloc (.cells #[.int .i64 1, .int .i32 v, om.val, oc.val, .int .i64 3] 33)) := ⟨_, rfl⟩
    have hb67 : Below w6.heap.size w6 w7 := by rw [hw7]; exact bal (Below.refl _ _) _
    have hbo := Lib.hid (show w7.heap[w6.heap.size]? = some (.cells [.int .i64 1, .int .i32 v, om.val, oc.val, .int .i64 3].toArray 33 (0, 0)) by rw [hw7]; exact heap_alloc_new _ _)
    have hz7 : w7.heap.size = w6.heap.size + 1 := by rw [hw7]; simp
    show Calls _ _ _ (w6.alloc (.cells #[.int .i64 1, .int .i32 v, om.val, oc.val, .int .i64 3] 33)) _
    rw [← hw7]
    clear hw7
    have hu7 := Lib.hid (hown'.out.below (bthen hb26.out hb67))
    have hm7 := Lib.hid (hom'.out.below hb67)
    have hB7 := Lib.hid (bthen hb2'.out (bthen hb26.out hb67))
    clear hb67 hom' hown' hb26 hb2'
    refine (interpLoad u0 a w7 hu7.out.rd ha64'.out).mono ?_
    rintro e w8 ⟨rfl, rfl⟩
    rw [hk'.out]
    have hyes := (ldOk_iff u0.l a).1 hk'.out
    clear hz7 hbw
    have hw64 := ha64'.out
    have g1 : decide (0 ≤ a) = true := by simpa using hyes.1
    have g2 : decide (a < (u0.l.length : Int)) = true := by simpa using hyes.2
    obtain ⟨gu, hA, -, hlu, hcu, -, -, -⟩ := hu7.out.setAt a 0 hyes
    have hatu := run_index32 (P := Try.prog) 25 21 Try.underlying25 u0 gu 0 1 hA (by kernel_rfl) a a.toNat (by omega) (by omega)
    rw [Nat.zero_add, Nat.mul_one] at hatu
    have hlv : ldV u0.l a = u0.l[a.toNat]'(by omega) := by
      unfold ldV
      rw [if_pos hk'.out, List.getD_eq_getElem?_getD, List.getElem?_eq_getElem (by omega)]
      rfl
    rw [hlv]
    have hlen : a.toNat < u0.l.length := by omega
    generalize u0.l[a.toNat]'(by omega) = xv at hcu
    have hyes' := Lib.hid hyes
    clear hyes hlv hlen hA
    go_wp2_with (at_builtin; go_must (refine wpList_app kW (by decide) kW_one w7.heap.size rfl 25 21 _ _ rfl (.int .i32 0) 4 Try.underlying25 infoW rfl (by decide) _ ⟨some ⟨w7.heap.size, 0, none⟩, 0, []⟩ u0 rfl rfl (own_lit (.int .i32) _ _ w7 [] (Nat.le_refl _) (by simp)) (kW.sl.below hu7.out.rd (bal (Below.refl _ _) _)) (by simp) kW_apart (by have := hu20.out; simp; omega) ?_; intro q w8 hown hl hg hat; have hq := Lib.hid hown; have hql := Lib.hid (show q.l = u0.l by rw [hl]; rfl); have hb78 := (bal (Below.refl _ _) (.cells #[] 21)).grown hg (by simp) (by intro k hk; simp [Value.ownBlock] at hk; omega); have hbo8 := bx_go hbo.out hb78; have c0 := bx_cell (j := 0) hbo8 rfl; have c1 := bx_cell (j := 1) hbo8 rfl; have c2 := bx_cell (j := 2) hbo8 rfl; have c4 := bx_cell (j := 4) hbo8 rfl; have hl8 := lt_of_block hbo8; have hbo8' := Lib.hid hbo8; have hb78' := Lib.hid hb78; clear hown hl hg hat hbo8 hb78))
    have hq' := Lib.hid hq.out
    refine (interpStore q a v w7.heap.size w8 hq.out ha64'.out).mono ?_
    rintro e w10 ⟨rfl, hq10, hch, hz10⟩
    rw [show ldOk q.l a = true by rw [hql.out]; exact hk'.out]
    have hb710 := Lib.hid (((Chg.of (F := fun k => some k = q.val.ownBlock) hb78'.out).trans hch).toBelow fun k hk => hq.out.ge k hk)
    have hq10' := Lib.hid hq10
    have hbo10 := bx_go hbo.out hb710.out
    clear hatu hcu c0 c1 c2 c4 hl8 hbo8' hq10 hch hz10
    have c0 := bx_cell (j := 0) hbo10 rfl
    have c1 := bx_cell (j := 1) hbo10 rfl
    have c2 := bx_cell (j := 2) hbo10 rfl
    have c4 := bx_cell (j := 4) hbo10 rfl
    have hl10 := lt_of_block hbo10
    have hmq : mset q.l a v = mset u0.l a v := by rw [hql.out]
    obtain ⟨gq, hAq, -, hlq, hcq, -, -, -⟩ := hq10'.out.setAt a 0 (by show 0 ≤ a ∧ a < ((mset q.l a v).length : Int); rw [mset_len, hql.out]; exact hyes'.out)
    have hatq := run_index32 (P := Try.prog) 25 21 Try.underlying25 q gq 0 1 hAq (by kernel_rfl) a a.toNat (by have := hyes'.out; omega) (by rw [hql.out]; have := hyes'.out; omega)
    rw [Nat.zero_add, Nat.mul_one] at hatq
    have hcv : w10.cell? ⟨gq, a.toNat, none⟩ = some (.int .i32 v) := by
      rw [hcq]
      have : (mset q.l a v)[a.toNat]? = some v := by
        rw [mset, if_pos (by rw [hql.out]; exact hyes'.out), List.getElem?_set_self (by rw [hql.out]; have := hyes'.out; omega)]
      have h2 := List.getElem?_eq_some_iff.1 this
      obtain ⟨h3, h4⟩ := h2
      show some (Value.int .i32 ((mset q.l a v)[a.toNat])) = _
      rw [h4]
    clear hcq hAq hbo10
    go_wp2_with fail
    have hcl := refWords om (q.wl (mset q.l a v)) w10 (kW.sl.below hm7.out.rd hb710.out) hq10'.out.rd
    rw [Sl.wl_val (by simp)] at hcl
    refine hcl.mono ?_
    rintro e w11 ⟨rfl, hb11⟩
    rw [show (om.l == (q.wl (mset q.l a v)).l) = true by show (om.l == mset q.l a v) = true; rw [hmq, e3'.out]; simp]
    have hb11' := Lib.hid (bthen hb710.out hb11)
    clear hb11 hcl hmq c0 c1 c2 c4 hl10 hatq hcv hlq
    go_wp2_with fail
    go_ret
    exact ⟨rfl, bthen hB7.out hb11'.out⟩
end Go.Proofs.Ytjlehpgfhlkjlaa
