/-
  The walk of the law MachLimits: a table's entries.
-/
import Derived.Test.YtjlehpgfhlkjlaaL7
import Derived.Test.YtjlehpgfhlkjlaaPLimits
import Derived.Deep.LoopGhost
set_option linter.all false
namespace Jq
open Go Go.RowKit
/-- A row of one element, laid as a literal, is one of one's own. -/
theorem own_one {α : Type} (d : Kd α) (hd : 0 < d.sz) (W : World) (x : α) (e : Nat) (base : Nat) (hb : base ≤ W.heap.size) (hx : d.rd W x) (g : Nat) (hg : g = W.heap.size) : Own d e base (W.alloc (.cells (d.cs x).toArray e)) ⟨some ⟨g, 0, none⟩, 1, [x]⟩ := by
  subst hg
  refine ⟨?_, (by decide : (1 : Nat) ≤ 140737488355328), fun y hy => ?_, fun y hy k hk => ?_⟩
  · have h := World.ownsRow_lit (base := base) (e := e) (size := d.sz) W (d.cs x).toArray 1 hb (by decide) (by simp [d.len])
    have e1 : [x].flatMap d.cs = (d.cs x).toArray.toList := by simp
    rw [e1]
    exact h
  · rw [List.mem_singleton.1 hy]
    exact d.below hx (bal (Below.refl _ _) _)
  · rw [List.mem_singleton.1 hy] at hk
    have := d.lt hx k hk
    simp [Sl.val, Value.ownBlock]
    omega
theorem zeros_sl (b : Nat) (T : TypeId) (k : Nat) (hk : k ≤ 100) : ∃ Z : Sl Int, Z.val = .slice (some ⟨b, 0, none⟩) k k ∧ Z.l = List.replicate k 0 ∧ ∀ W : World, W.heap[b]? = some (.cells (madeCells #[.int .i64 0] k) T (0, 0)) → kI.sl.rd W Z := by
  refine ⟨⟨some ⟨b, 0, none⟩, k, List.replicate k 0⟩, by simp only [Sl.val, List.length_replicate], rfl, fun W h => ⟨by simp, by simp; omega, fun _ => ⟨b, 0, rfl, lt_of_block h, fun i hi j hj => ?_⟩, fun _ _ => trivial⟩⟩
  have hj0 : j = 0 := by simp only [kI, Kd.scalar] at hj; omega
  subst hj0
  have hi' : i < k := by simpa using hi
  simp only [kI, Kd.scalar, Nat.mul_one, Nat.add_zero, Nat.zero_add, World.cell?, h]
  rw [← Array.getElem?_toList, toList_madeCells_one]
  simp [hi']
theorem kMBlock_one : ∀ (x : MBlock Sl) u, u ∈ kMBlock.cs x → u.oneCell' = true := by
  intro x u hu
  simp only [kMBlock, List.mem_cons, List.not_mem_nil, or_false] at hu
  rcases hu with rfl | rfl | rfl | rfl | rfl | rfl | rfl <;> rfl
end Jq
namespace Go.Proofs.Ytjlehpgfhlkjlaa
open Go.RowKit Jq Go.Deep
set_option linter.unusedVariables false
def OneOwn (p : Int) (e : Jq.End Sl) (l : Sl (Mach Sl)) (w : World) (en : Ending) (w' : World) : Prop :=
  ∃ b : Sl (MBlock Sl), en = .returned (.agg #[.int .i64 p, b.val]) ∧ b.l = [⟨nilSl, l, e⟩] ∧ Own kMBlock 65 w.heap.size w' b ∧ Below w.heap.size w w'
theorem one_own (p : Int) (e : Jq.End Sl) (l : Sl (Mach Sl)) (w W : World) (he : kEnd.rd w e) (hl : kMach.sl.rd w l) (hB : Below w.heap.size w W) (g : Nat) (hg : g = W.heap.size) :
    OneOwn p e l w (.returned (.agg #[.int .i64 p, .slice (some ⟨g, 0, none⟩) 1 1])) (W.alloc (.cells (kMBlock.cs ⟨nilSl, l, e⟩).toArray 65)) := by
  have hr : kMBlock.rd W ⟨nilSl, l, e⟩ := ⟨Kd.nil_rd _ _, kMach.sl.below hl hB, kEnd.below he hB⟩
  exact ⟨⟨some ⟨g, 0, none⟩, 1, [⟨nilSl, l, e⟩]⟩, rfl, rfl, own_one kMBlock (by decide) W _ _ _ hB.size hr g hg, bal hB _⟩
set_option maxRecDepth 1000000 in
set_option maxHeartbeats 800000 in
/-- 'jacquardlaw07.one'. -/
theorem l7oneOwn (p : Int) (e : Jq.End Sl) (l : Sl (Mach Sl)) (w : World) (he : kEnd.rd w e) (hl : kMach.sl.rd w l) :
    Calls Try.prog 34 #[.int .i64 p, e.v, l.val] w (OneOwn p e l w) := by
  have he' := Lib.hid he
  have hl' := Lib.hid hl
  clear he hl
  go_enter Try.func34, Try.ntmps34
  go_wp2_with fail
  refine bodyPost_ret (v := .agg #[.int .i64 p, .slice (some ⟨w.heap.size + 1 + 1, 0, none⟩) 1 1]) (by simp [results, Try.results34, go_sem]) rfl ?_
  exact one_own p e l w _ he'.out hl'.out (bal (bal (Below.refl _ _) _) _) _ (by simp)
theorem infoMB : (Try.prog.info? 65).map (fun i => (i.zero, i.size, i.bytes)) = some (some (.agg #[.slice none 0 0, .slice none 0 0, .int .i64 0, .int .i64 0, .int .i64 0, .slice none 0 0, .int .i32 0]), 7, 104) := by kernel_rfl
set_option maxRecDepth 1000000 in
set_option maxHeartbeats 800000 in
theorem limits7 (w : World) (a b d : Int) (a1 : 0 ≤ a) (a2 : a ≤ 255) (b1 : 0 ≤ b) (b2 : b ≤ 255) (h1 : -2 ≤ d) (h2 : d ≤ 2) (ha : a % 9 = 7) (hb : b % 5 - 2 = d) :
    Calls Try.prog 7 #[.int .u8 a, .int .u8 b] w fun e w' => e = .returned (.bool true) ∧ Below w.heap.size w w' := by
  have hlim := Lib.hid (lim7 d h1 h2)
  obtain ⟨k, hk⟩ : ∃ k : Nat, 4 + d = (k : Int) := ⟨(4 + d).toNat, by omega⟩
  have hk6 : k ≤ 6 := by omega
  have hmk : ∀ W : World, (Instr.makeSlice 38 (.int .i64 k) (.int .i64 k)).run Try.prog W = .ok (.slice (some ⟨W.heap.size, 0, none⟩) k k) (W.alloc (.cells (madeCells #[.int .i64 0] k) 3)) := fun W => run_make_row' 38 3 (.int .i64 0) 8 Try.underlying38 infoI rfl .i64 .i64 k (by omega) (by omega) W
  by_cases hd : d ≤ 0
  all_goals first
    | have dd : decide (d ≤ 0) = true := by simpa using hd
    | have dd : decide (d ≤ 0) = false := by simp; omega
  all_goals
    have hd' := Lib.hid hd
    clear hd
    go_enter Try.func7, Try.ntmps7
    go_wp2_with fail
    refine (l7shown _).mono ?_
    rintro e w1 ⟨rfl, hb1⟩
    have hB1 := Lib.hid hb1
    clear hb1
    obtain ⟨Z, hZv, hZl, hZr⟩ := zeros_sl (w1.heap.size + 1 + 1) 3 k (by omega)
    have hZl' := Lib.hid hZl
    have hZr' := Lib.hid hZr
    have hZv' := Lib.hid hZv
    clear hZl hZr hZv
    go_wp2_with fail
    go_must (rw [← hZv'.out])
    refine (l7one 0 ⟨7, -1, 0, nilSl, 0⟩ ⟨some ⟨w1.heap.size + 1 + 1 + 1, 0, none⟩, 1, [⟨28, 0, 0, 0, 0, 0, 0, Z⟩]⟩ _ (Kd.nil_rd _ _) (lit_one_at kMach _ ⟨28, 0, 0, 0, 0, 0, 0, Z⟩ 40 _ (by simp) (hZr'.out _ (ask_last _ _ _ (by simp))))).mono ?_
    rintro e w2 ⟨m, rfl, hmp, hmr, hmem, hb2⟩
    have hB2 := Lib.hid (bthen hB1.out (bthen (by repeat (first | exact Below.refl _ _ | refine bal ?_ _)) hb2))
    have hmp' := Lib.hid hmp
    have hmr' := Lib.hid hmr
    have hmem' := Lib.hid hmem
    clear hmp hmr hmem hb2
    go_wp2_with fail
    refine (machFunc m _ (kMFunc.below hmr'.out (bal (Below.refl _ _) _)) (fun b hb y hy => by rw [List.mem_singleton.1 (hmem'.out b hb y hy)]; show Z.l.length * 8 ≤ _; rw [hZl'.out, List.length_replicate]; omega)).mono ?_
    have he := lim_one (Mach.p ⟨28, 0, 0, 0, 0, 0, 0, Z⟩)
    have hm1 : m.p = ⟨0, [⟨[], [Mach.p ⟨28, 0, 0, 0, 0, 0, 0, Z⟩], ⟨7, -1, 0, [], 0⟩⟩]⟩ := hmp'.out
    rw [← hm1] at he
    obtain ⟨he1, he2⟩ := he
    have he3 : insErr (Mach.p ⟨28, 0, 0, 0, 0, 0, 0, Z⟩) = if d ≤ 0 then 0 else 30 := by
      have h := hlim.out
      rw [hk, Int.toNat_natCast] at h
      show insErr ⟨28, 0, 0, 0, 0, 0, 0, Z.l⟩ = _
      rw [hZl'.out]
      exact h
    rw [he3] at he1
    first
      | rw [if_pos hd'.out] at he1
      | rw [if_neg (by have := hd'.out; omega)] at he1
    rintro e w3 ⟨rfl, hb3⟩
    obtain ⟨f3, hf3⟩ : ∃ f, (funcErr m.p).2.2 = f := ⟨_, rfl⟩
    rw [he1, he2, hf3]
    clear hm1 he3 he1 he2 hf3
    have hB3 := Lib.hid (bthen (bal hB2.out _) hb3)
    clear hb3 hB2 hB1 hmp' hmr' hmem' hlim hd'
    go_wp2_with fail
    go_ret
    exact ⟨rfl, hB3.out⟩
set_option maxRecDepth 1000000 in
set_option maxHeartbeats 800000 in
theorem limits8 (w : World) (a b d : Int) (a1 : 0 ≤ a) (a2 : a ≤ 255) (b1 : 0 ≤ b) (b2 : b ≤ 255) (h1 : -2 ≤ d) (h2 : d ≤ 2) (ha : a % 9 = 8) (hb : b % 5 - 2 = d) :
    Calls Try.prog 7 #[.int .u8 a, .int .u8 b] w fun e w' => e = .returned (.bool true) ∧ Below w.heap.size w w' := by
  have hlim := Lib.hid (lim8 d h1 h2)
  obtain ⟨k, hk⟩ : ∃ k : Nat, 65 + d = (k : Int) := ⟨(65 + d).toNat, by omega⟩
  have hk6 : k ≤ 67 := by omega
  have u0 : (a % 9 == 0) = false := by rw [ha]; rfl
  have u1 : (a % 9 == 1) = false := by rw [ha]; rfl
  have u2 : (a % 9 == 2) = false := by rw [ha]; rfl
  have u3 : (a % 9 == 3) = false := by rw [ha]; rfl
  have u4 : (a % 9 == 4) = false := by rw [ha]; rfl
  have u5 : (a % 9 == 5) = false := by rw [ha]; rfl
  have u6 : (a % 9 == 6) = false := by rw [ha]; rfl
  have u7 : (a % 9 == 7) = false := by rw [ha]; rfl
  have u8 : (a % 9 == 8) = true := by rw [ha]; rfl
  clear ha
  go_enter Try.func7, Try.ntmps7
  go_wp2_with fail
  refine (l7shown _).mono ?_
  rintro e w1 ⟨rfl, hb1⟩
  have hB1 := Lib.hid hb1
  clear hb1
  go_wp2_with fail
  go_loopg [11] (k) (fun g q wr => ∃ (j : Nat) (E : Sl Int), q = .int .i64 j ∧ j ≤ k ∧ g = k - j ∧ Below w1.heap.size w1 wr ∧ wr.heap[w1.heap.size]? = some (.cells (kMach.cs ⟨1, 0, 0, 0, 0, 0, 0, nilSl⟩).toArray 40 (0, 0)) ∧ wr.heap[w1.heap.size + 1]? = some (.cells [.int .i64 6, .int .i64 0, .int .i64 0, E.val, .int .i32 0].toArray 59 (0, 0)) ∧ Own kI 3 (w1.heap.size + 2) wr E ∧ E.l = List.replicate j 1)
  case atStart =>
    refine ⟨0, nilSl, rfl, Nat.zero_le _, rfl, bal (bal (Below.refl _ _) _) _, ?_, ?_, Own.nil _ _ _ _, rfl⟩
    · exact (Below.heap_alloc _ _ _ (by simp)).trans (heap_alloc_new w1 _)
    · have h := heap_alloc_new (w1.alloc (.cells (kMach.cs ⟨1, 0, 0, 0, 0, 0, 0, nilSl⟩).toArray 40)) (.cells [.int .i64 6, .int .i64 0, .int .i64 0, .slice none 0 0, .int .i32 0].toArray 59)
      rw [World.size_alloc] at h
      exact h
  case round =>
    obtain ⟨j, E, rfl, hj, hg, hB, hx, he, hE, hEl⟩ := hrel
    have hg' := Lib.hid hg
    have hB' := Lib.hid hB
    have hx' := Lib.hid hx
    have he' := Lib.hid he
    have hE' := Lib.hid hE
    have hEl' := Lib.hid hEl
    have hs1 : w1.heap.size + 1 < wr.heap.size := lt_of_block he
    have hs0 : w1.heap.size < wr.heap.size := by omega
    clear hg hB hx hE hEl
    by_cases hlt : j < k
    · have c3 : wr.cell? ⟨w1.heap.size + 1, 3, none⟩ = some E.val := by simp [World.cell?, he]
      have hEn : E.l.length ≤ 67 := by rw [hEl'.out, List.length_replicate]; omega
      clear he
      go_wp2_with (at_builtin; go_must (refine wpList_app kI (by decide) kI_one (w1.heap.size + 2) rfl 38 3 _ _ rfl (.int .i64 0) 8 Try.underlying38 infoI rfl (by decide) _ E ⟨some ⟨wr.heap.size, 0, none⟩, 1, [1]⟩ rfl rfl (hE'.out.below (bal (Below.refl _ _) _)) (own_lit (.int .i64) 3 0 wr [1] (by simp) (by simp)).rd (by simp; omega) kI_apart (by simp only [List.length_singleton]; omega) ?_; intro E2 w9 hown hl hgr hat; have hrow : ∀ q, E.val.ownBlock = some q → w1.heap.size + 2 ≤ q := (fun q hq => hE'.out.ge q hq.symm); have p1 := (hgr.block (w1.heap.size + 1) (by simp; omega) (fun e => by have := hrow _ e.symm; omega)).trans ((Below.heap_alloc _ _ _ hs1).trans he'.out); have p0 := (hgr.block w1.heap.size (by simp; omega) (fun e => by have := hrow _ e.symm; omega)).trans ((Below.heap_alloc _ _ _ hs0).trans hx'.out); have hB9 := Lib.hid (Below.grown (bthen hB'.out (bal (Below.refl _ _) (.cells #[.int .i64 1] 3))) hgr (by simp; omega) (fun q hq => by have := hrow q hq; omega)); have c9 : w9.cell? ⟨w1.heap.size + 1, 3, none⟩ = some E.val := (by simp [World.cell?, p1]); have f9 : w9.frozen? ⟨w1.heap.size + 1, 3, none⟩ = false := (by simp [World.frozen?, p1]); have p1' := Lib.hid p1; have p0' := Lib.hid p0; have hown' := Lib.hid hown; have hl' := Lib.hid hl; clear hown hl hgr hat hrow p1 p0))
      go_roundg (k - (j + 1))
      case measure => have := hg'.out; omega
      case rel =>
        refine ⟨j + 1, E2, by go_num, by omega, rfl, hB9.out.setCell (by show w1.heap.size ≤ w1.heap.size + 1; omega) _, ?_, ?_, ?_, ?_⟩
        · rw [Below.heap_setCell _ _ _ _ (by show w1.heap.size ≠ w1.heap.size + 1; omega)]
          exact p0'.out
        · have h := heap_set_self (o := 3) (v := E2.val) p1'.out
          simpa using h
        · refine hown'.out.mv fun q hq => Below.heap_setCell _ _ _ _ ?_
          rcases hq with hq | ⟨y, _, hq⟩
          · have := hown'.out.ge q hq
            show q ≠ w1.heap.size + 1
            omega
          · simp [kI, Kd.scalar] at hq
        · rw [hl'.out, hEl'.out, List.replicate_succ']
    · have hjk : j = k := by omega
      subst hjk
      have c0 : wr.cell? ⟨w1.heap.size, 0, none⟩ = some (.int .i64 1) := by simp [World.cell?, hx'.out, kMach]
      have c1 : wr.cell? ⟨w1.heap.size, 1, none⟩ = some (.int .i64 0) := by simp [World.cell?, hx'.out, kMach]
      have c2 : wr.cell? ⟨w1.heap.size, 2, none⟩ = some (.int .i64 0) := by simp [World.cell?, hx'.out, kMach]
      have c3 : wr.cell? ⟨w1.heap.size, 3, none⟩ = some (.int .i64 0) := by simp [World.cell?, hx'.out, kMach]
      have c4 : wr.cell? ⟨w1.heap.size, 4, none⟩ = some (.int .i64 0) := by simp [World.cell?, hx'.out, kMach]
      have c5 : wr.cell? ⟨w1.heap.size, 5, none⟩ = some (.int .i64 0) := by simp [World.cell?, hx'.out, kMach]
      have c6 : wr.cell? ⟨w1.heap.size, 6, none⟩ = some (.int .i32 0) := by simp [World.cell?, hx'.out, kMach]
      have c7 : wr.cell? ⟨w1.heap.size, 7, none⟩ = some (.slice none 0 0) := by simp [World.cell?, hx'.out, kMach]
      have e0 : wr.cell? ⟨w1.heap.size + 1, 0, none⟩ = some (.int .i64 6) := by simp [World.cell?, he]
      have e1 : wr.cell? ⟨w1.heap.size + 1, 1, none⟩ = some (.int .i64 0) := by simp [World.cell?, he]
      have e2 : wr.cell? ⟨w1.heap.size + 1, 2, none⟩ = some (.int .i64 0) := by simp [World.cell?, he]
      have e3 : wr.cell? ⟨w1.heap.size + 1, 3, none⟩ = some E.val := by simp [World.cell?, he]
      have e4 : wr.cell? ⟨w1.heap.size + 1, 4, none⟩ = some (.int .i32 0) := by simp [World.cell?, he]
      clear he
      go_wp2_with fail
      clear c0 c1 c2 c3 c4 c5 c6 c7 e0 e1 e2 e3 e4
      refine (l7oneOwn 0 ⟨6, 0, 0, E, 0⟩ ⟨some ⟨wr.heap.size, 0, none⟩, 1, [⟨1, 0, 0, 0, 0, 0, 0, nilSl⟩]⟩ _ (kI.sl.below hE'.out.rd (bal (Below.refl _ _) _)) (lit_one_at kMach _ ⟨1, 0, 0, 0, 0, 0, 0, nilSl⟩ 40 _ rfl (Kd.nil_rd _ _))).mono ?_
      rintro e w2 ⟨bs, rfl, hbl, hbo, hb2⟩
      have hB2 := Lib.hid (bthen (bthen hB1.out (bthen hB'.out (bal (Below.refl _ _) _))) hb2)
      have hbl' := Lib.hid hbl
      have hbo' := Lib.hid hbo
      have hEr := Lib.hid (kI.sl.below hE'.out.rd (bthen (bal (Below.refl _ _) _) hb2))
      clear hbl hbo hb2
      go_upto_region 34 with fail
      have hbq : ∀ q, bs.val.ownBlock = some q → q < w2.heap.size := fun q hq => hbo'.out.lt q (Or.inl hq.symm)
      have hb1l : bs.l.length = 1 := by rw [hbl'.out]; rfl
      have hsw : w1.heap.size ≤ (wr.alloc (.cells (kMach.cs ⟨1, 0, 0, 0, 0, 0, 0, nilSl⟩).toArray 40)).heap.size := by simp; omega
      have hbo2 := Lib.hid (hbo'.out.lower hsw)
      have hs2 := Lib.hid (show w1.heap.size ≤ w2.heap.size from by
        have h1 := hbo'.out.lt
        rcases hbo2.out.row.2 with ⟨h2, h3⟩ | ⟨g1, c1, cu1, hv1, hg1, hh1, _⟩
        · omega
        · have := lt_of_block hh1; omega)
      clear hb1l
      go_upto_region 35 with (at_builtin; go_must (refine wpList_app kMBlock (by decide) kMBlock_one w1.heap.size rfl 22 65 _ _ rfl (.agg #[.slice none 0 0, .slice none 0 0, .int .i64 0, .int .i64 0, .int .i64 0, .slice none 0 0, .int .i32 0]) 104 Try.underlying22 infoMB rfl (by decide) _ bs ⟨some ⟨w2.heap.size + 1, 0, none⟩, 1, [⟨nilSl, nilSl, ⟨8, 0, 0, nilSl, 0⟩⟩]⟩ rfl rfl (hbo2.out.below (bal (bal (Below.refl _ _) _) _)) (lit_one_at kMBlock _ ⟨nilSl, nilSl, ⟨8, 0, 0, nilSl, 0⟩⟩ 65 _ (by simp) ⟨Kd.nil_rd _ _, Kd.nil_rd _ _, Kd.nil_rd _ _⟩) (by have := hs2.out; simp; omega) (fun y hy q hq e => by rw [List.mem_singleton.1 hy] at hq; simp [kMBlock, kEnd, Kd.sl, Kd.rfp] at hq) (by rw [hbl'.out]; show (1 + 1) * 104 ≤ 140737488355328; decide) ?_; intro b2 w9 hown hl hgr hat; have pm := (hgr.block w2.heap.size (by simp; omega) (fun e => by have := hbq _ e.symm; omega)).trans ((Below.heap_alloc _ _ _ (by simp)).trans (heap_alloc_new w2 _)); have c9 : w9.cell? ⟨w2.heap.size, 1, none⟩ = some bs.val := (by simp [World.cell?, pm]); have f9 : w9.frozen? ⟨w2.heap.size, 1, none⟩ = false := (by simp [World.frozen?, pm]); have pm' := Lib.hid pm; have hown' := Lib.hid hown; have hl' := Lib.hid hl; have hge := Lib.hid (Below.grown (bthen hB2.out (bal (bal (Below.refl _ _) _) _)) hgr (by have := hB1.out.size; have := hs2.out; simp; omega) (fun q hq => by have h5 := hbo2.out.ge q hq.symm; have := hB1.out.size; omega)); clear hown hl hgr hat pm))
      clear c9 f9
      obtain ⟨W9, hW9⟩ : ∃ W9, W9 = w9.setCell ⟨w2.heap.size, 1, none⟩ b2.val := ⟨_, rfl⟩
      have hW9' : w9.setCell ⟨w2.heap.size, 1, none⟩ (.slice b2.A b2.l.length b2.cap) = W9 := hW9.symm
      go_must (rw [hW9'])
      have pW := heap_set_self (o := 1) (v := b2.val) (cs := [.int .i64 0, bs.val]) (T := 24) (f := (0, 0)) pm'.out
      rw [← hW9] at pW
      have m0 : W9.cell? ⟨w2.heap.size, 0, none⟩ = some (.int .i64 0) := by simp [World.cell?, pW]
      have m1 : W9.cell? ⟨w2.heap.size, 1, none⟩ = some b2.val := by simp [World.cell?, pW]
      have hB9 := Lib.hid (show Below w.heap.size w W9 from by rw [hW9]; exact hge.out.setCell (by have := hB1.out.size; have := hs2.out; show w.heap.size ≤ w2.heap.size; omega) _)
      have hrd9 := Lib.hid (show kMBlock.sl.rd W9 b2 from by
        refine (hown'.out.mv (fun q hq => ?_)).rd
        rw [hW9]
        refine Below.heap_setCell _ _ _ _ ?_
        show q ≠ w2.heap.size
        rcases hq with hq | ⟨y, hy, hq⟩
        · intro e
          subst e
          exact own_ne hown'.out pm'.out (by decide) hq.symm
        · rw [hl'.out] at hy
          rcases List.mem_append.1 hy with hy | hy
          · have := kMBlock.lt (hbo'.out.elems y hy) q hq
            omega
          · rw [List.mem_singleton.1 hy] at hq
            simp [kMBlock, kEnd, Kd.sl, Kd.rfp] at hq)
      have hb2l := Lib.hid (show b2.l = [⟨nilSl, ⟨some ⟨wr.heap.size, 0, none⟩, 1, [⟨1, 0, 0, 0, 0, 0, 0, nilSl⟩]⟩, ⟨6, 0, 0, E, 0⟩⟩, ⟨nilSl, nilSl, ⟨8, 0, 0, nilSl, 0⟩⟩] from by rw [hl'.out, hbl'.out]; rfl)
      clear pW hW9 hW9' pm' hown' hl' hge hbl' hbo' hbo2 hbq hEr hx' he'
      go_wp2_with fail
      refine (machFunc ⟨0, b2⟩ _ hrd9.out (fun b hb y hy => ?_)).mono ?_
      · have hb : b ∈ b2.l := hb
        rw [hb2l.out] at hb
        rcases List.mem_cons.1 hb with rfl | hb
        · rw [List.mem_singleton.1 hy]; exact Nat.zero_le _
        · rw [List.mem_singleton.1 hb] at hy; exact absurd hy (by simp)
      have hm1 : MFunc.p ⟨0, b2⟩ = ⟨0, [⟨[], [⟨1, 0, 0, 0, 0, 0, 0, []⟩], ⟨6, 0, 0, List.replicate (65 + d).toNat 1, 0⟩⟩, ⟨[], [], ⟨8, 0, 0, [], 0⟩⟩]⟩ := by
        show (⟨0, b2.l.map MBlock.p⟩ : MFunc List) = _
        rw [hb2l.out, hk, Int.toNat_natCast, ← hEl'.out]
        rfl
      rintro e w3 ⟨rfl, hb3⟩
      obtain ⟨he1, he2⟩ := hlim.out
      rw [← hm1] at he1 he2
      obtain ⟨f3, hf3⟩ : ∃ f, (funcErr (MFunc.p ⟨0, b2⟩)).2.2 = f := ⟨_, rfl⟩
      rw [he1, he2, hf3]
      have hB3 := Lib.hid (bthen hB9.out hb3)
      clear hm1 he1 he2 hf3 hb3 hB9 hlim
      by_cases hd : d ≤ 0
      · rw [if_pos hd]
        have dd : decide (d ≤ 0) = true := by simpa using hd
        clear hd
        go_wp2_with fail
        go_ret
        exact ⟨rfl, hB3.out⟩
      · rw [if_neg hd]
        have dd : decide (d ≤ 0) = false := by simp; omega
        clear hd
        go_wp2_with fail
        go_ret
        exact ⟨rfl, hB3.out⟩
end Go.Proofs.Ytjlehpgfhlkjlaa
