/-
  The walk of the law MachTouches.
-/
import Derived.Test.YtjlehpgfhlkjlaaTouch1
import Derived.Test.YtjlehpgfhlkjlaaOpen
import Derived.Laws.BitsLemmas
import Derived.BigRegion
import Derived.Deep.LoopGhost
import Derived.Deep.QuietTactic
import Derived.BigQuiet
import Derived.WalkSmall
set_option linter.all false
namespace Jq
open Go Go.RowKit
theorem contains_take (l : List Int) (j : Nat) (h : j < l.length) (k : Int) : (l.take (j + 1)).contains k = ((l.take j).contains k || l[j] == k) := by
  rw [← take_at _ j l[j] (by simp [h]), Bool.eq_iff_iff]
  simp only [List.contains_iff_mem, Bool.or_eq_true, List.mem_append, List.mem_singleton, beq_iff_eq]
  exact or_congr Iff.rfl eq_comm
theorem and15 (n : Int) : bits .and .i64 n 15 = n % 16 := by
  have h127 : (BitVec.ofInt 64 15).toNat = 2 ^ 4 - 1 := by decide
  have key : (BitVec.ofInt 64 n &&& BitVec.ofInt 64 15).toNat = (n % ((2 ^ 64 : Nat) : Int)).toNat % 2 ^ 4 := by
    rw [BitVec.toNat_and, BitVec.toNat_ofInt, h127, Nat.and_two_pow_sub_one_eq_mod]
  show IntKind.i64.wrap ((BitVec.ofInt 64 n &&& BitVec.ofInt 64 15).toNat : Nat) = n % 16
  rw [key, IntKind.wrap_i64]
  omega
end Jq
namespace Go.Proofs.Ytjlehpgfhlkjlaa
open Go.RowKit Jq Go.Deep
set_option linter.unusedVariables false
set_option maxRecDepth 1000000 in
set_option maxHeartbeats 800000 in
theorem walkMachTouches (w : World) (i : Mach Sl) (hi : kMach.rd w i) (oi : MachOk i) (g : { l : List Int // l.length = 32 }) (hg : (kRow 32).rd w g) (og : ∀ y, y ∈ g.1 → Fits32 y) (m : Sl Int) (hm : kW.sl.rd w m) (om : WordsOk m) :
    Calls Try.prog 4 #[i.v, .agg ((kRow 32).cs g).toArray, m.val] w fun e w' => e = .returned (.bool true) ∧ Below w.heap.size w w' := by
  have hi' := Lib.hid hi
  have hm' := Lib.hid hm
  obtain ⟨gv, hgv⟩ : ∃ gv, ((kRow 32).cs g).toArray = gv := ⟨_, rfl⟩
  rw [hgv]
  have hgv' := Lib.hid hgv
  clear hi hm oi om og hg hgv
  go_enter Try.func4, Try.ntmps4
  go_wp2_with fail
  refine (l7shown _).mono ?_
  rintro e w1 ⟨rfl, hb1⟩
  have p0 : w1.heap[w.heap.size]? = some (.cells (kMach.cs i).toArray 40 (0, 0)) := (hb1.block _ (by simp; omega)).trans ((Below.heap_alloc _ _ _ (by simp)).trans (heap_alloc_new w _))
  have p1 : w1.heap[w.heap.size + 1]? = some (.cells gv 42 (0, 0)) := (hb1.block _ (by simp)).trans (by have h := heap_alloc_new (w.alloc (.cells (kMach.cs i).toArray 40)) (.cells gv 42); simpa [kMach] using h)
  have hB1 := Lib.hid (show Below w.heap.size w w1 from bthen (bal (bal (Below.refl _ _) _) _) hb1)
  have c0 : w1.cell? ⟨w.heap.size, 0, none⟩ = some (.int .i64 i.op) := by simp [World.cell?, p0, kMach]
  have c1 : w1.cell? ⟨w.heap.size, 1, none⟩ = some (.int .i64 i.d) := by simp [World.cell?, p0, kMach]
  have c2 : w1.cell? ⟨w.heap.size, 2, none⟩ = some (.int .i64 i.e) := by simp [World.cell?, p0, kMach]
  have c3 : w1.cell? ⟨w.heap.size, 3, none⟩ = some (.int .i64 i.a) := by simp [World.cell?, p0, kMach]
  have c4 : w1.cell? ⟨w.heap.size, 4, none⟩ = some (.int .i64 i.b) := by simp [World.cell?, p0, kMach]
  have c5 : w1.cell? ⟨w.heap.size, 5, none⟩ = some (.int .i64 i.c) := by simp [World.cell?, p0, kMach]
  have c6 : w1.cell? ⟨w.heap.size, 6, none⟩ = some (.int .i32 i.imm) := by simp [World.cell?, p0, kMach]
  have c7 : w1.cell? ⟨w.heap.size, 7, none⟩ = some i.args.val := by simp [World.cell?, p0, kMach]
  have p1' := Lib.hid p1
  clear p0 p1 hb1
  go_wp2_with fail
  clear c0 c1 c2 c3 c4 c5 c6 c7
  refine (l7few i w1 (kMach.below hi'.out hB1.out)).mono ?_
  rintro e w2 ⟨t, rfl, htl, hto, hb2⟩
  have htl' := Lib.hid htl
  have hto' := Lib.hid hto
  have hb2' := Lib.hid hb2
  clear htl hto hb2
  have hand := and15
  go_upto_region 8 with fail
  clear hand
  obtain ⟨x, hx⟩ : ∃ x : Mach Sl, x = ⟨i.op, i.d % 16, i.e % 16, i.a % 16, i.b % 16, i.c % 16, i.imm, t⟩ := ⟨_, rfl⟩
  obtain ⟨W3, hW3⟩ : ∃ W3, W3 = w2.alloc (.cells (kMach.cs x).toArray 40) := ⟨_, rfl⟩
  have hB2 := Lib.hid (bthen hB1.out hb2'.out)
  have hT3 : TI 40 3 21 w W3 w2.heap.size x nilSl nilSl (fun _ => nilSl) := by
    rw [hW3]
    refine ⟨bal hB2.out _, heap_alloc_new w2 _, hB2.out.size, ?_, Own.nil _ _ _ _, Own.nil _ _ _ _, ⟨fun _ _ => Own.nil _ _ _ _, fun _ _ _ _ _ k hk => by simp [Value.ownBlock] at hk⟩⟩
    have : x.args = t := by rw [hx]
    rw [this]
    exact (hto'.out.lower hB1.out.size).below (bal (Below.refl _ _) _)
  have hp1 := Lib.hid (show W3.heap[w.heap.size + 1]? = some (.cells ((kRow 32).cs g).toArray 42 (0, 0)) from by
    rw [hgv'.out, hW3, Below.heap_alloc _ _ _ (Nat.lt_of_lt_of_le (lt_of_block p1'.out) hb2'.out.size), hb2'.out.block _ (lt_of_block p1'.out)]
    exact p1'.out)
  have hnear := Lib.hid (show Near x.p from by rw [hx]; exact ⟨by show 0 ≤ i.a % 16 ∧ i.a % 16 < 16; omega, by show 0 ≤ i.b % 16 ∧ i.b % 16 < 16; omega, by show 0 ≤ i.c % 16 ∧ i.c % 16 < 16; omega, by show 0 ≤ i.d % 16 ∧ i.d % 16 < 16; omega, by show 0 ≤ i.e % 16 ∧ i.e % 16 < 16; omega⟩)
  have hargs := Lib.hid (show x.args.l.length ≤ 7 from by rw [hx]; show t.l.length ≤ 7; rw [htl'.out, List.length_take]; omega)
  have hop : x.op = i.op := by rw [hx]
  have hW3' : w2.alloc (.cells #[.int .i64 i.op, .int .i64 (i.d % 16), .int .i64 (i.e % 16), .int .i64 (i.a % 16), .int .i64 (i.b % 16), .int .i64 (i.c % 16), .int .i32 i.imm, .slice t.A t.l.length t.cap] 40) = W3 := by rw [hW3, hx]; rfl
  go_must (rw [hW3'])
  have hT3' := Lib.hid hT3
  have hs3 := Lib.hid (show w2.heap.size < W3.heap.size from by rw [hW3]; simp)
  clear hT3 hW3' hW3 hx hop hto' htl' hb2' p1' hgv' hi'
  obtain ⟨xb, hxb⟩ : ∃ xb, w2.heap.size = xb := ⟨_, rfl⟩
  rw [hxb] at hT3' hs3 ⊢
  clear hxb hB2
  obtain ⟨e0, e1, e2, e3, e4, e5, e6, e7⟩ := hT3'.out.cells
  go_wp2_with fail
  clear e0 e1 e2 e3 e4 e5 e6 e7
  refine (machTakes x W3 hT3'.out.args.rd (by have := hargs.out; omega)).mono ?_
  rintro e w4 ⟨tk, rfl, htk, htko, hb4⟩
  have hT4 := Lib.hid (hT3'.out.setTk hb4 htko)
  have hp4 := Lib.hid ((hb4.block _ (lt_of_block hp1.out)).trans hp1.out)
  have htk' := Lib.hid htk
  obtain ⟨e0, e1, e2, e3, e4, e5, e6, e7⟩ := hT4.out.cells
  clear htk htko hb4 hp1 hT3' hs3
  go_wp2_with fail
  clear e0 e1 e2 e3 e4 e5 e6 e7
  refine (machMakes x w4).mono ?_
  rintro e w5 ⟨mk, rfl, hmk, hmko, hb5⟩
  have hT5 := Lib.hid (hT4.out.setMk hb5 hmko)
  have hp5 := Lib.hid ((hb5.block _ (lt_of_block hp4.out)).trans hp4.out)
  have hmk' := Lib.hid hmk
  clear hmk hmko hb5 hp4 hT4
  go_upto_region 10 with fail
  obtain ⟨sA, vA, lA, rA⟩ := arr_sl (w.heap.size + 1) 42 g 0 (by decide)
  obtain ⟨sC, vC, lC, rC⟩ := arr_sl (w.heap.size + 1) 42 g 16 (by decide)
  have vA' := Lib.hid vA
  have vC' := Lib.hid vC
  have lA' := Lib.hid lA
  have lC' := Lib.hid lC
  have rA' := Lib.hid rA
  have rC' := Lib.hid rC
  clear vA vC lA lC rA rC
  go_upto_region 11 with (at_builtin; go_must (refine wpList_app kW (by decide) kW_one w5.heap.size rfl 25 21 _ _ rfl (.int .i32 0) 4 Try.underlying25 infoW rfl (by decide) _ ⟨some ⟨w5.heap.size, 0, none⟩, 0, []⟩ sA rfl (by exact vA'.out.symm) (own_lit (.int .i32) _ _ w5 [] (Nat.le_refl _) (by simp)) (kW.sl.below (rA'.out _ hp5.out) (bal (Below.refl _ _) _)) (by simp) kW_apart (by have := lA'.out; simp only [List.length_nil]; omega) ?_; intro sa w6 hown hl hg hat; have hb6 : Below w5.heap.size w5 w6 := (bal (Below.refl _ _) _).grown hg (by simp) (by intro k hk; simp [Value.ownBlock] at hk; omega); have hT6 := Lib.hid (hT5.out.add hb6 hown 0); have hp6 := Lib.hid ((hb6.block _ (lt_of_block hp5.out)).trans hp5.out); have hsa := Lib.hid (show sa.l = sA.l from hl); clear hown hl hg hat hb6 hp5 hT5))
  go_upto_region 12 with (at_builtin; go_must (refine wpList_app kW (by decide) kW_one w6.heap.size rfl 25 21 _ _ rfl (.int .i32 0) 4 Try.underlying25 infoW rfl (by decide) _ ⟨some ⟨w6.heap.size, 0, none⟩, 0, []⟩ sC rfl (by exact vC'.out.symm) (own_lit (.int .i32) _ _ w6 [] (Nat.le_refl _) (by simp)) (kW.sl.below (rC'.out _ hp6.out) (bal (Below.refl _ _) _)) (by simp) kW_apart (by have := lC'.out; simp only [List.length_nil]; omega) ?_; intro sc w7 hown hl hg hat; have hb7 : Below w6.heap.size w6 w7 := (bal (Below.refl _ _) _).grown hg (by simp) (by intro k hk; simp [Value.ownBlock] at hk; omega); have hT7 := Lib.hid ((hT6.out.add hb7 hown 1).eta (r' := TI.rw5 sa sc nilSl nilSl nilSl) (fun q hq => by rcases (by omega : q = 0 ∨ q = 1 ∨ q = 2 ∨ q = 3 ∨ q = 4) with rfl | rfl | rfl | rfl | rfl <;> rfl)); have hsc := Lib.hid (show sc.l = sC.l from hl); clear hown hl hg hat hb7 hp6 hT6))
  have sal := Lib.hid (show sa.l.length = 16 from by rw [hsa.out]; exact lA'.out)
  have scl := Lib.hid (show sc.l.length = 16 from by rw [hsc.out]; exact lC'.out)
  have htb := Kd.bound hT7.out.tk.rd
  clear hsa hsc rA' rC' lA' lC' vA' vC' sA sC
  go_wp2_with fail
  go_loopg [13] (tk.l.length) (fun g k wr => ∃ j : Nat, k = .int .i64 j ∧ j ≤ tk.l.length ∧ g = tk.l.length - j ∧ TI 40 3 21 w wr xb x tk mk (TI.rw5 sa (sc.wl (copyAll sa.l (tk.l.take j) sc.l)) nilSl nilSl nilSl))
  case atStart => exact ⟨0, rfl, Nat.zero_le _, rfl, hT7.out⟩
  case round =>
    obtain ⟨j, rfl, hj, hg, hT⟩ := hrel
    have hT8 := Lib.hid hT
    have hg8 := Lib.hid hg
    clear hT hg hT7
    have hcl : (copyAll sa.l (tk.l.take j) sc.l).length = sc.l.length := copyAll_len _ _ _
    have hcv : (sc.wl (copyAll sa.l (tk.l.take j) sc.l)).val = sc.val := Sl.wl_val hcl
    by_cases hlt : j < tk.l.length
    · obtain ⟨b1, o1, h1, hb1, hc1⟩ := getI 38 3 Try.underlying38 (by kernel_rfl) hT8.out.tk.rd j hlt rfl
      have hat := Lib.hid (copyAll_at sa.l tk.l sc.l j hlt)
      obtain ⟨v, hv⟩ : ∃ v, tk.l[j] = v := ⟨_, rfl⟩
      rw [hv] at hc1 hat
      clear hv
      by_cases hin : 0 ≤ v ∧ v < 16
      · obtain ⟨v0, v1⟩ := hin
        have d0 : decide (0 ≤ v) = true := by simpa using v0
        have d1 : decide (v < 16) = true := by simpa using v1
        have hva : v.toNat < sa.l.length := by rw [sal.out]; omega
        obtain ⟨b2, o2, h2, hb2, hc2⟩ := getW 25 21 Try.underlying25 (by kernel_rfl) hT8.out.oa.rd v (k := v.toNat) hva (by omega)
        have hma := Lib.hid (mget_at sa.l v.toNat hva)
        obtain ⟨av, hav⟩ : ∃ av, sa.l[v.toNat] = av := ⟨_, rfl⟩
        rw [hav] at hc2 hma
        clear hav
        obtain ⟨gb, hA, hbs, hgl, hcc, hf, hob, hst⟩ := hT8.out.oc.setAt v av ⟨v0, by show v < ((copyAll sa.l (tk.l.take j) sc.l).length : Int); rw [hcl, scl.out]; exact v1⟩
        have hA : sc.A = some ⟨gb, 0, none⟩ := hA
        rw [hcv] at hob
        have hatC := Kd.run_index (P := Try.prog) 25 21 Try.underlying25 sc gb 0 1 hA (by kernel_rfl) v v.toNat (by omega) (by rw [scl.out]; omega)
        rw [Nat.zero_add, Nat.mul_one] at hatC
        have hst' := Lib.hid hst
        have hob' := Lib.hid hob
        clear hst hob hA
        go_wp2_with fail
        go_region
        go_wp2_with fail
        go_roundg (tk.l.length - (j + 1))
        case measure => have := hg8.out; omega
        case rel =>
          refine ⟨j + 1, by go_num, by omega, rfl, ?_⟩
          have h9 := (hT8.out.putC (by decide) (by decide) (l := mset (copyAll sa.l (tk.l.take j) sc.l) v av) (by rw [mset_len]; rfl) ((Chg.refl _ _).set gb v.toNat _ (Or.inl (by rw [hcv]; exact hob'.out.symm))) hst'.out).go (Below.refl _ _).drew
          have e : mget sa.l v = av := by have h := hma.out; rwa [Int.toNat_of_nonneg v0] at h
          rw [hat.out, e]
          exact h9
      · have e : copyAll sa.l (tk.l.take (j + 1)) sc.l = copyAll sa.l (tk.l.take j) sc.l := by
          rw [hat.out, mset, if_neg (by rw [hcl, scl.out]; omega)]
        have e' := Lib.hid e
        clear e hat
        rcases (by omega : v < 0 ∨ (0 ≤ v ∧ 16 ≤ v)) with v0 | ⟨v0, v1⟩
        · have d0 : decide (0 ≤ v) = false := by simp; omega
          go_wp2_with fail
          go_roundg (tk.l.length - (j + 1))
          case measure => have := hg8.out; omega
          case rel => exact ⟨j + 1, by go_num, by omega, rfl, by rw [e'.out]; exact hT8.out⟩
        · have d0 : decide (0 ≤ v) = true := by simpa using v0
          have d1 : decide (v < 16) = false := by simp; omega
          go_wp2_with fail
          go_roundg (tk.l.length - (j + 1))
          case measure => have := hg8.out; omega
          case rel => exact ⟨j + 1, by go_num, by omega, rfl, by rw [e'.out]; exact hT8.out⟩
    · have hjl : j = tk.l.length := by omega
      subst hjl
      rw [List.take_length] at hcl hcv
      have hT9 := hT8.out
      rw [List.take_length] at hT9
      obtain ⟨c2, hc2⟩ : ∃ c2, sc.wl (copyAll sa.l tk.l sc.l) = c2 := ⟨_, rfl⟩
      rw [hc2] at hT9 hcv
      have hc2l : c2.l = copyAll sa.l tk.l sc.l := by rw [← hc2]; rfl
      have hT9' := Lib.hid hT9
      have hcv' := Lib.hid hcv
      have c2l := Lib.hid (show c2.l.length = 16 from by rw [hc2l, hcl]; exact scl.out)
      have hag := Lib.hid (show ∀ r, r ∈ takes x.p → 0 ≤ r → r < 16 → mget c2.l r = mget sa.l r from fun r hr h0 h1 => by rw [hc2l]; exact copyAll_hit sa.l r tk.l sc.l (by rw [htk'.out]; exact hr) h0 (by rw [scl.out]; exact h1))
      clear hT9 hT8 hc2 hc2l hcl hcv hj hg8 hlt htk'
      go_must (rw [← hcv'.out])
      go_wp2_with fail
      refine (l7some m wr (kW.sl.below hm'.out hT9'.out.below)).mono ?_
      rintro e w8 ⟨sb, rfl, hsb, hob, hb8⟩
      have hT10 := Lib.hid (hT9'.out.addB hb8 hob)
      have hsb' := Lib.hid hsb
      clear hsb hob hb8 hT9'
      go_wp2_with fail
      refine (l7some m w8 (kW.sl.below hm'.out hT10.out.below)).mono ?_
      rintro e w9 ⟨sd, rfl, hsd, hod, hb9⟩
      have hT11 := Lib.hid (hT10.out.addD hb9 hod)
      have hsd' := Lib.hid hsd
      clear hsd hod hb9 hT10
      go_upto_region 20 with (at_builtin; go_must (refine wpList_app kW (by decide) kW_one w9.heap.size rfl 25 21 _ _ rfl (.int .i32 0) 4 Try.underlying25 infoW rfl (by decide) _ ⟨some ⟨w9.heap.size, 0, none⟩, 0, []⟩ sa rfl rfl (own_lit (.int .i32) _ _ w9 [] (Nat.le_refl _) (by simp)) (kW.sl.below hT11.out.oa.rd (bal (Below.refl _ _) _)) (by simp) kW_apart (by have := sal.out; simp only [List.length_nil]; omega) ?_; intro sv w10 hown hl hg hat; have hb10 : Below w9.heap.size w9 w10 := (bal (Below.refl _ _) _).grown hg (by simp) (by intro k hk; simp [Value.ownBlock] at hk; omega); have hT12 := Lib.hid (hT11.out.addV hb10 hown); have hsv := Lib.hid (show sv.l = sa.l from hl); clear hown hl hg hat hb10 hT11))
      obtain ⟨D, hD⟩ : ∃ D, mdo x.p sa.l (m.l.take 20) = D := ⟨_, rfl⟩
      obtain ⟨E, hE⟩ : ∃ E, mdo x.p c2.l (m.l.take 20) = E := ⟨_, rfl⟩
      obtain ⟨h1, h2, h3⟩ := touch_same (m := m.l.take 20) hnear.out sal.out c2l.out hag.out
      have h4 := fun k => touch_keep (i := x.p) (a := sa.l) (m := m.l.take 20) (k := k)
      have h5 := touch_trap (i := x.p) (a := sa.l) (m := m.l.take 20)
      have hlnD := mdo_len x.p sa.l (m.l.take 20)
      have hlnE := mdo_len x.p c2.l (m.l.take 20)
      rw [hD, hE] at h1 h2 h3
      rw [hD] at h4 h5 hlnD
      rw [hE] at hlnE
      have hD' := Lib.hid hD
      have hE' := Lib.hid hE
      have h1' := Lib.hid h1
      have h2' := Lib.hid h2
      have h3' := Lib.hid h3
      have h4' := Lib.hid h4
      have h5' := Lib.hid h5
      have hlnD' := Lib.hid hlnD
      have hlnE' := Lib.hid hlnE
      clear hD hE h1 h2 h3 h4 h5 hlnD hlnE hag
      obtain ⟨⟨tr, ok⟩, la, lm⟩ := D
      obtain ⟨⟨tr2, ok2⟩, lc, lm2⟩ := E
      have q1 : tr2 = tr := congrArg Prod.fst h1'.out
      have q2 : ok2 = ok := congrArg Prod.snd h1'.out
      have q3 : lm2 = lm := h2'.out
      subst q1 q2 q3
      clear h1' h2'
      obtain ⟨e0, e1, e2, e3, e4, e5, e6, e7⟩ := hT12.out.cells
      go_wp2_with fail
      clear e0 e1 e2 e3 e4 e5 e6 e7
      have hdo := machDo x sa sb w.heap.size _ hT12.out.oa hT12.out.ob hT12.out.ab
      rw [hsb'.out, hD'.out] at hdo
      refine hdo.mono ?_
      rintro e w11 ⟨rfl, ho1, ho2, hch⟩
      have hT13 := Lib.hid (hT12.out.doAB (by decide) (by decide) hlnD'.out.1 (hlnD'.out.2.trans (by rw [hsb'.out])) hch ho1 ho2)
      clear hdo ho1 ho2 hch hT12
      obtain ⟨e0, e1, e2, e3, e4, e5, e6, e7⟩ := hT13.out.cells
      go_wp2_with fail
      clear e0 e1 e2 e3 e4 e5 e6 e7
      have hdo := machDo x c2 sd w.heap.size _ hT13.out.oc hT13.out.od hT13.out.cd
      rw [hsd'.out, hE'.out] at hdo
      refine hdo.mono ?_
      rintro e w12 ⟨rfl, ho1, ho2, hch⟩
      have hT14 := Lib.hid (hT13.out.doCD (by decide) (by decide) hlnE'.out.1 (hlnE'.out.2.trans (by rw [hsd'.out])) hch ho1 ho2)
      clear hdo ho1 ho2 hch hT13
      have hvb : (sb.wl lm2).val = sb.val := Sl.wl_val (hlnD'.out.2.trans (by rw [hsb'.out]))
      have hvd : (sd.wl lm2).val = sd.val := Sl.wl_val (hlnD'.out.2.trans (by rw [hsd'.out]))
      have hva : (sa.wl la).val = sa.val := Sl.wl_val hlnD'.out.1
      have hvc : (c2.wl lc).val = c2.val := Sl.wl_val hlnE'.out.1
      have hwd := refWords (sb.wl lm2) (sd.wl lm2) w12 hT14.out.ob.rd hT14.out.od.rd
      rw [hvb, hvd] at hwd
      have hwd' := Lib.hid hwd
      have hvb' := Lib.hid hvb
      have hva' := Lib.hid hva
      have hvc' := Lib.hid hvc
      clear hwd hvb hvd hva hvc
      go_wp2_with fail
      refine hwd'.out.mono ?_
      have hbe : ((sb.wl lm2).l == (sd.wl lm2).l) = true := beq_self_eq_true lm2
      rw [hbe]
      rintro e w13 ⟨rfl, hb13⟩
      have hT15 := Lib.hid (hT14.out.go hb13)
      clear hwd' hb13 hT14 hbe
      have hmb := Kd.bound hT15.out.mks.rd
      go_wp2_with fail
      go_loopg [21] (16) (fun g q wr => ∃ k : Nat, q = .int .i64 k ∧ k ≤ 16 ∧ g = 16 - k ∧ TI 40 3 21 w wr xb x tk mk (TI.rw5 (sa.wl la) (c2.wl lc) (sb.wl lm2) (sd.wl lm2) sv))
      case atStart => exact ⟨0, rfl, Nat.zero_le _, rfl, hT15.out⟩
      case round =>
        obtain ⟨k, rfl, hk, hg, hT⟩ := hrel
        have hT16 := Lib.hid hT
        have hg16 := Lib.hid hg
        clear hT hg hT15
        by_cases hlt : k < 16
        · go_wp2_with fail
          obtain ⟨wo, rfl⟩ : ∃ wo : World, wo = wr := ⟨_, rfl⟩
          go_loopg [22, 23] (mk.l.length) (fun g u q wr => ∃ j : Nat, q = .int .i64 j ∧ j ≤ mk.l.length ∧ g = mk.l.length - j ∧ u = .bool ((mk.l.take j).contains (k : Int)) ∧ wr = wo)
          case atStart => exact ⟨0, rfl, Nat.zero_le _, rfl, by simp, rfl⟩
          case round =>
            obtain ⟨j, rfl, hj, hg, hu, hwe⟩ := hrel
            subst hwe
            have hg17 := Lib.hid hg
            clear hg
            obtain ⟨md, hmd⟩ : ∃ md, (mk.l.take j).contains (k : Int) = md := ⟨_, rfl⟩
            rw [hmd] at hu
            subst hu
            have hmd' := Lib.hid hmd
            clear hmd
            by_cases hlj : j < mk.l.length
            · obtain ⟨b1, o1, q1, hb1, hc1⟩ := getI 38 3 Try.underlying38 (by kernel_rfl) hT16.out.mks.rd j hlj rfl
              have htake := Lib.hid (show (mk.l.take (j + 1)).contains (k : Int) = (md || mk.l[j] == (k : Int)) from by rw [contains_take _ j hlj, hmd'.out])
              cases md with
              | true =>
                go_wp2_with fail
                go_roundg (mk.l.length - (j + 1))
                case measure => have := hg17.out; omega
                case rel => exact ⟨j + 1, by go_num, by omega, rfl, by rw [htake.out]; rfl, rfl⟩
              | false =>
                obtain ⟨mv, hmv⟩ : ∃ mv, mk.l[j] = mv := ⟨_, rfl⟩
                rw [hmv] at hc1 htake
                clear hmv
                go_wp2_with fail
                go_roundg (mk.l.length - (j + 1))
                case measure => have := hg17.out; omega
                case rel => exact ⟨j + 1, by go_num, by omega, rfl, by rw [htake.out]; rfl, rfl⟩
            · have hjl : j = mk.l.length := by omega
              subst hjl
              rw [List.take_length] at hmd'
              have hmem : md = true ↔ (k : Int) ∈ makes x.p := by rw [← hmd'.out, hmk'.out]; simp
              have hka : k < (sa.wl la).l.length := by show k < la.length; rw [hlnD'.out.1, sal.out]; exact hlt
              have hkc : k < (c2.wl lc).l.length := by show k < lc.length; rw [hlnE'.out.1, c2l.out]; exact hlt
              have hkv : k < sv.l.length := by rw [hsv.out, sal.out]; exact hlt
              obtain ⟨ba, oa, qa, hba, ca⟩ := getW 25 21 Try.underlying25 (by kernel_rfl) hT16.out.oa.rd k hka rfl
              obtain ⟨bc, oc, qc, hbc, cc⟩ := getW 25 21 Try.underlying25 (by kernel_rfl) hT16.out.oc.rd k hkc rfl
              obtain ⟨bv, ov, qv, hbv, cv⟩ := getW 25 21 Try.underlying25 (by kernel_rfl) hT16.out.ov.rd k hkv rfl
              rw [hva'.out] at qa
              rw [hvc'.out] at qc
              have ga := mget_at (sa.wl la).l k hka
              have gc := mget_at (c2.wl lc).l k hkc
              have gv2 := mget_at sv.l k hkv
              obtain ⟨xa, hxa⟩ : ∃ xa, (sa.wl la).l[k] = xa := ⟨_, rfl⟩
              obtain ⟨xc, hxc⟩ : ∃ xc, (c2.wl lc).l[k] = xc := ⟨_, rfl⟩
              obtain ⟨xv, hxv⟩ : ∃ xv, sv.l[k] = xv := ⟨_, rfl⟩
              have gv3 : mget sa.l k = xv := by rw [← hsv.out, gv2, hxv]
              rw [hxa] at ca ga
              rw [hxc] at cc gc
              rw [hxv] at cv
              have ga : mget la k = xa := ga
              have gc : mget lc k = xc := gc
              have r1 : md = false ∨ ok2 = false → xa = xv := fun h => by
                rw [← ga, ← gv3]
                refine h4'.out k ?_
                rcases h with h | h
                · left; intro hm; rw [hmem.2 hm] at h; cases h
                · exact Or.inr h
              have r2 : md = true → ok2 = true → x.op ≠ 28 → x.op ≠ 30 → xa = xc := fun h1 h2 h3 h4 => by
                rw [← ga, ← gc]
                exact h3'.out k (hmem.1 h1) h2 h3 h4
              have r1' := Lib.hid r1
              have r2' := Lib.hid r2
              clear ga gc gv2 gv3 hxa hxc hxv r1 r2 hmem hmd'
              obtain ⟨e0, e1, e2, e3, e4, e5, e6, e7⟩ := hT16.out.cells
              clear e1 e2 e3 e4 e5 e6 e7
              cases md with
              | false =>
                have dq : (xa != xv) = false := by rw [r1'.out (Or.inl rfl)]; simp
                go_wp2_with fail
                go_quiet (fail)
                go_wp2_with fail
                go_roundg (16 - (k + 1))
                case measure => have := hg16.out; omega
                case rel => exact ⟨k + 1, by go_num, by omega, rfl, hT16.out.go (below_drewN (Below.refl _ _) _)⟩
              | true =>
                cases hok : ok2 with
                | false =>
                  have dq : (xa != xv) = false := by rw [r1'.out (Or.inr hok)]; simp
                  subst hok
                  go_wp2_with fail
                  go_quiet (fail)
                  go_wp2_with fail
                  go_roundg (16 - (k + 1))
                  case measure => have := hg16.out; omega
                  case rel => exact ⟨k + 1, by go_num, by omega, rfl, hT16.out.go (below_drewN (Below.refl _ _) _)⟩
                | true =>
                  subst hok
                  obtain ⟨xop, hxop⟩ : ∃ xop, x.op = xop := ⟨_, rfl⟩
                  rw [hxop] at e0 r2'
                  clear hxop
                  by_cases n28 : xop = 28
                  · have d28 : (xop != 28) = false := by simpa using n28
                    have n28' := Lib.hid n28
                    clear n28
                    go_wp2_with fail
                    go_quiet (fail)
                    go_wp2_with fail
                    go_roundg (16 - (k + 1))
                    case measure => have := hg16.out; omega
                    case rel => exact ⟨k + 1, by go_num, by omega, rfl, hT16.out.go (below_drewN (Below.refl _ _) _)⟩
                  · have d28 : (xop != 28) = true := by simpa using n28
                    have n28' := Lib.hid n28
                    clear n28
                    by_cases n30 : xop = 30
                    · have d30 : (xop != 30) = false := by simpa using n30
                      have n30' := Lib.hid n30
                      clear n30
                      go_wp2_with fail
                      go_quiet (fail)
                      go_wp2_with fail
                      go_roundg (16 - (k + 1))
                      case measure => have := hg16.out; omega
                      case rel => exact ⟨k + 1, by go_num, by omega, rfl, hT16.out.go (below_drewN (Below.refl _ _) _)⟩
                    · have d30 : (xop != 30) = true := by simpa using n30
                      have dq : (xa != xc) = false := by rw [r2'.out rfl rfl n28'.out n30]; simp
                      have n30' := Lib.hid n30
                      clear n30
                      go_wp2_with fail
                      go_quiet (fail)
                      go_wp2_with fail
                      go_roundg (16 - (k + 1))
                      case measure => have := hg16.out; omega
                      case rel => exact ⟨k + 1, by go_num, by omega, rfl, hT16.out.go (below_drewN (Below.refl _ _) _)⟩
        · obtain ⟨e0, e1, e2, e3, e4, e5, e6, e7⟩ := hT16.out.cells
          clear e1 e2 e3 e4 e5 e6 e7
          cases hok : ok2 with
          | true =>
            subst hok
            go_wp2_with fail
            go_ret
            exact ⟨rfl, hT16.out.below⟩
          | false =>
            obtain ⟨hl5, ht5⟩ := h5'.out hok
            have ht5 : tr2 = -1 ∧ x.op = 17 ∨ tr2 = -2 ∧ 24 ≤ x.op ∧ x.op ≤ 27 := ht5
            have hl5' := Lib.hid hl5
            have ht5' := Lib.hid ht5
            clear hl5 ht5
            subst hok
            go_wp2_with fail
            refine (l7some m wr (kW.sl.below hm'.out hT16.out.below)).mono ?_
            rintro e wa ⟨se, rfl, hse, hoe, hbe⟩
            have hT17 := Lib.hid (hT16.out.go hbe)
            have hw := refWords (sb.wl lm2) se wa hT17.out.ob.rd hoe.rd
            rw [hvb'.out] at hw
            have heq : ((sb.wl lm2).l == se.l) = true := by rw [hse, ← hl5'.out]; exact beq_self_eq_true lm2
            rw [heq] at hw
            have hw' := Lib.hid hw
            clear hw heq hse hoe hbe e0 hT16
            go_wp2_with fail
            refine hw'.out.mono ?_
            rintro e wb ⟨rfl, hbb⟩
            have hT18 := Lib.hid (hT17.out.go hbb)
            obtain ⟨e0, e1, e2, e3, e4, e5, e6, e7⟩ := hT18.out.cells
            clear hT17 hw' hbb e1 e2 e3 e4 e5 e6 e7
            have ht5 := ht5'.out
            clear ht5'
            obtain ⟨xop, hxop⟩ : ∃ xop, x.op = xop := ⟨_, rfl⟩
            rw [hxop] at e0 ht5
            clear hxop
            rcases ht5 with ⟨t0, t1⟩ | ⟨t0, t1, t2⟩
            · subst t0 t1
              go_wp2_with fail
              go_ret
              exact ⟨rfl, hT18.out.below⟩
            · subst t0
              go_wp2_with fail
              go_ret
              exact ⟨rfl, hT18.out.below⟩
end Go.Proofs.Ytjlehpgfhlkjlaa
