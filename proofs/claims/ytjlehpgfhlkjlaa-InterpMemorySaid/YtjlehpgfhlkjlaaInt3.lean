/-
  interp.run.term.
-/
import Derived.Test.YtjlehpgfhlkjlaaInt2
import Derived.Test.YtjlehpgfhlkjlaaUses
import Derived.Deep.LoopGhost
import Derived.Deep.DeepMust
set_option linter.all false
namespace Jq
open Go Go.RowKit
theorem wd0 (l : List Int) : (l ++ [0]).getD 0 0 = (l ++ [0])[0]'(by simp) := by
  cases l <;> rfl
theorem run_indexU {α : Type} {P : Program} (T e : TypeId) (hT : P.underlying T = some (.slice e)) (s : Sl α) (b o sz : Nat) (hA : s.A = some ⟨b, o, none⟩) (hsz : (P.info? e).map (·.size) = some sz) (i : Int) (k : Nat) (hi : i = k) (hk : k < s.l.length) (W : World) :
    (Instr.indexAt T s.val (.int .u32 i)).run P W = .ok (.pointer (some ⟨b, o + k * sz, none⟩)) W := by
  subst hi
  obtain ⟨q, hq, hqs⟩ := Option.map_eq_some_iff.1 hsz
  have hso : (Go.sizeOf e).run P W = .ok sz W := by simp [Go.sizeOf, typeInfo, hq, hqs]
  simp [Instr.indexAt, asIntOf, run_underlying hT, hA, Result.andThen, Sl.val]
  rw [if_pos hk, hso]
  simp only [Result.andThen, Addr.add, Int.toNat_natCast]
  split
  · rename_i h; rw [h]; rfl
  · rfl
theorem getU {P : Program} (T e : TypeId) (hT : P.underlying T = some (.slice e)) {w : World} {s : Sl Int} (hsz : (P.info? e).map (·.size) = some 1) (h : kI.sl.rd w s) (i : Int) {k : Nat} (hk : k < s.l.length) (hi : i = k) :
    ∃ b o, (∀ W, (Instr.indexAt T s.val (.int .u32 i)).run P W = .ok (.pointer (some ⟨b, o + k, none⟩)) W) ∧ b < w.heap.size ∧ w.cell? ⟨b, o + k, none⟩ = some (.int .i64 s.l[k]) := by
  obtain ⟨b, o, hA, hb, hc, hr⟩ := Kd.at_ h hk
  refine ⟨b, o, fun W => by have := run_indexU T e hT s b o 1 hA hsz i k hi hk W; rwa [Nat.mul_one] at this, hb, ?_⟩
  have h2 := hc 0 (by decide)
  simpa [kI, Kd.scalar] using h2
end Jq
namespace Go.Proofs.Ytjlehpgfhlkjlaa
open Go.RowKit Jq
set_option linter.unusedVariables false
section
variable {kb mb B : Nat} {lim : Int} {w : World} {s : IS} {M : Sl Int} {C : Sl (Jq.Event Sl)} {A : Sl Int}
set_option maxRecDepth 100000 in
set_option maxHeartbeats 2000000 in
/-- 'run.term'. -/
theorem inTerm (h : RK kb mb B lim w s M C A) (t : Jq.Term Sl) (ht : kTerm.rd w t) (h8 : t.args.l.length * 4 ≤ 140737488355320) (h9 : t.to.l.length ≤ 65) (s' : IS) (nx : Int) (hx : termI t.p s = some (s', nx)) :
    Calls Try.prog 80 #[.pointer (some ⟨kb, 0, none⟩), .agg #[.int .i64 t.kind, t.args.val, t.to.val, .int .i32 t.imm]] w (MR kb mb B lim w (.int .i64 nx) s') := by
  have hba := Kd.bound (d := kI) ht.1
  have hbt := Kd.bound (d := kI) ht.2
  have h' := Lib.hid h
  have ht' := Lib.hid ht
  have hx' := Lib.hid hx
  clear h ht hx
  go_enter Try.func80, Try.ntmps80
  go_wp2_with fail
  obtain ⟨w0, hw0⟩ : ∃ w0, w0 = w.alloc (.cells #[.int .i64 t.kind, t.args.val, t.to.val, .int .i32 t.imm] 81) := ⟨_, rfl⟩
  have hB0 : Below w.heap.size w w0 := by rw [hw0]; exact bal (Below.refl _ _) _
  have hbx : w0.heap[w.heap.size]? = some (.cells [.int .i64 t.kind, t.args.val, t.to.val, .int .i32 t.imm].toArray 81 (0, 0)) := by rw [hw0]; exact heap_alloc_new _ _
  rw [← hw0]
  have hs0 : w0.heap.size = w.heap.size + 1 := by rw [hw0]; simp
  clear hw0
  refine (inWords (h'.out.go hB0) t.args (kI.sl.below ht'.out.1 hB0) (by omega)).mono ?_
  rintro e w1 ⟨o, rfl, hol, hoo, hob⟩
  have hoo' := Lib.hid hoo
  have hol' := Lib.hid hol
  have hB1 := Lib.hid (bthen hB0 hob)
  have hbx1 := Lib.hid (bx_go hbx hob)
  have hsz1 := Lib.hid (show w.heap.size < w1.heap.size from lt_of_block hbx1.out)
  have holn : o.l.length = t.args.l.length := by rw [hol]; simp [IS.words]
  have hsz0 := Lib.hid (show w0.heap.size ≤ w1.heap.size from hob.size)
  clear hol hoo hob hbx hB0
  have hop : t.kind = 1 ∨ t.kind = 2 ∨ t.kind = 3 ∨ t.kind = 4 ∨ (t.kind ≠ 1 ∧ t.kind ≠ 2 ∧ t.kind ≠ 3 ∧ t.kind ≠ 4) := by omega
  have hx := hx'.out
  unfold termI at hx
  rcases hop with hop | hop | hop | hop | ⟨q1, q2, q3, q4⟩
  · rw [if_pos (show t.p.kind = 1 from hop)] at hx
    obtain ⟨nb, hnb, hpr⟩ := Option.map_eq_some_iff.1 hx
    obtain ⟨hk, hnk⟩ := List.getElem?_eq_some_iff.1 hnb
    simp only [Prod.mk.injEq] at hpr
    obtain ⟨rfl, rfl⟩ := hpr
    have d1 : (t.kind == 1) = true := by simp [hop]
    have hk2 : 0 < t.to.l.length := hk
    have hnk2 : t.to.l[0] = nb := hnk
    have hto := Lib.hid hnk2
    clear hx hnb hk hnk hnk2 hop
    go_wp2_with (at_builtin; go_must (refine wpList_app kW (by decide) kW_one w0.heap.size rfl 25 21 _ _ rfl (.int .i32 0) 4 Try.underlying25 infoW rfl (by decide) _ o ⟨some ⟨w1.heap.size, 0, none⟩, 1, [0]⟩ rfl rfl (hoo'.out.below (bal (Below.refl _ _) _)) (own_lit (.int .i32) 21 0 w1 [0] (by simp) (by simp)).rd (by have := hsz0.out; simp; omega) kW_apart (by simp only [List.length_singleton]; omega) ?_; intro o2 w9 hown hl2 hgr hat; have hB9 := Lib.hid (show Below w.heap.size w w9 from Below.grown (bthen hB1.out (bal (Below.refl _ _) (.cells #[.int .i32 0] 21))) hgr (by have := hB1.out.size; simp; omega) (fun q hq => by have := hoo'.out.ge q hq.symm; omega)); have hx9 := Lib.hid (show w9.heap[w.heap.size]? = some (.cells [.int .i64 t.kind, t.args.val, t.to.val, .int .i32 t.imm].toArray 81 (0, 0)) from (hgr.block _ (by have := hsz1.out; simp; omega) (fun e => by have := hoo'.out.ge _ e; omega)).trans ((Below.heap_alloc _ _ _ hsz1.out).trans hbx1.out)); have c0 := bx_cell (j := 0) hx9.out rfl; have c2 := bx_cell (j := 2) hx9.out rfl; have c3 := bx_cell (j := 3) hx9.out rfl; have hRK := Lib.hid (h'.out.go hB9.out); have hl2' := Lib.hid (show o2.l = s.words t.args.l ++ [0] from by rw [hl2, hol'.out]); have hlw : 0 < o2.l.length := (by rw [hl2]; simp); obtain ⟨b4, o4, h4, hb4, hc4⟩ := getW 25 21 Try.underlying25 (by kernel_rfl) hown.rd 0 hlw rfl; rw [Nat.add_zero] at hc4; have hv0 := Lib.hid (show o2.l[0] = (s.words t.args.l ++ [0]).getD 0 0 from by rw [wd0]; simp [hl2'.out]); clear hown hl2 hgr hat; obtain ⟨b5, o5, h5, hb5, hc5⟩ := getI 38 3 Try.underlying38 (by kernel_rfl) (kI.sl.below ht'.out.2 hB9.out) 0 hk2 rfl; rw [hto.out, Nat.add_zero] at hc5))
    go_ret
    exact ⟨rfl, ⟨_, _, _, hRK.out⟩, ChI.of hB9.out⟩
  · rw [if_neg (show ¬ t.p.kind = 1 by show ¬ t.kind = 1; omega), if_pos (show t.p.kind = 2 from hop)] at hx
    have d1 : (t.kind == 1) = false := by simp [hop]
    have d2 : (t.kind == 2) = true := by simp [hop]
    by_cases hv : (s.words t.p.args ++ [0]).getD 0 0 ≠ 0
    · rw [if_pos hv] at hx
      obtain ⟨nb, hnb, hpr⟩ := Option.map_eq_some_iff.1 hx
      obtain ⟨hk, hnk⟩ := List.getElem?_eq_some_iff.1 hnb
      simp only [Prod.mk.injEq] at hpr
      obtain ⟨rfl, rfl⟩ := hpr
      have hk2 : 0 < t.to.l.length := hk
      have hnk2 : t.to.l[0] = nb := hnk
      have hto := Lib.hid hnk2
      have hv3 : ¬ ((s.words t.args.l ++ [0]).getD 0 0 = 0) := hv
      have hv2 := Lib.hid hv3
      clear hv3
      clear hx hnb hk hnk hnk2 hop hv
      go_wp2_with (at_builtin; go_must (refine wpList_app kW (by decide) kW_one w0.heap.size rfl 25 21 _ _ rfl (.int .i32 0) 4 Try.underlying25 infoW rfl (by decide) _ o ⟨some ⟨w1.heap.size, 0, none⟩, 1, [0]⟩ rfl rfl (hoo'.out.below (bal (Below.refl _ _) _)) (own_lit (.int .i32) 21 0 w1 [0] (by simp) (by simp)).rd (by have := hsz0.out; simp; omega) kW_apart (by simp only [List.length_singleton]; omega) ?_; intro o2 w9 hown hl2 hgr hat; have hB9 := Lib.hid (show Below w.heap.size w w9 from Below.grown (bthen hB1.out (bal (Below.refl _ _) (.cells #[.int .i32 0] 21))) hgr (by have := hB1.out.size; simp; omega) (fun q hq => by have := hoo'.out.ge q hq.symm; omega)); have hx9 := Lib.hid (show w9.heap[w.heap.size]? = some (.cells [.int .i64 t.kind, t.args.val, t.to.val, .int .i32 t.imm].toArray 81 (0, 0)) from (hgr.block _ (by have := hsz1.out; simp; omega) (fun e => by have := hoo'.out.ge _ e; omega)).trans ((Below.heap_alloc _ _ _ hsz1.out).trans hbx1.out)); have c0 := bx_cell (j := 0) hx9.out rfl; have c2 := bx_cell (j := 2) hx9.out rfl; have c3 := bx_cell (j := 3) hx9.out rfl; have hRK := Lib.hid (h'.out.go hB9.out); have hl2' := Lib.hid (show o2.l = s.words t.args.l ++ [0] from by rw [hl2, hol'.out]); have hlw : 0 < o2.l.length := (by rw [hl2]; simp); obtain ⟨b4, o4, h4, hb4, hc4⟩ := getW 25 21 Try.underlying25 (by kernel_rfl) hown.rd 0 hlw rfl; rw [Nat.add_zero] at hc4; have hv0 := Lib.hid (show o2.l[0] = (s.words t.args.l ++ [0]).getD 0 0 from by rw [wd0]; simp [hl2'.out]); clear hown hl2 hgr hat; have hne : (o2.l[0] != 0) = true := (by rw [hv0.out]; simpa using hv2.out); obtain ⟨b5, o5, h5, hb5, hc5⟩ := getI 38 3 Try.underlying38 (by kernel_rfl) (kI.sl.below ht'.out.2 hB9.out) 0 hk2 rfl; rw [hto.out, Nat.add_zero] at hc5))
      go_ret
      exact ⟨rfl, ⟨_, _, _, hRK.out⟩, ChI.of hB9.out⟩
    · rw [if_neg hv] at hx
      obtain ⟨nb, hnb, hpr⟩ := Option.map_eq_some_iff.1 hx
      obtain ⟨hk, hnk⟩ := List.getElem?_eq_some_iff.1 hnb
      simp only [Prod.mk.injEq] at hpr
      obtain ⟨rfl, rfl⟩ := hpr
      have hk2 : 1 < t.to.l.length := hk
      have hnk2 : t.to.l[1] = nb := hnk
      have hto := Lib.hid hnk2
      have hv3 : ((s.words t.args.l ++ [0]).getD 0 0 = 0) := Classical.not_not.1 hv
      have hv2 := Lib.hid hv3
      clear hv3
      clear hx hnb hk hnk hnk2 hop hv
      go_wp2_with (at_builtin; go_must (refine wpList_app kW (by decide) kW_one w0.heap.size rfl 25 21 _ _ rfl (.int .i32 0) 4 Try.underlying25 infoW rfl (by decide) _ o ⟨some ⟨w1.heap.size, 0, none⟩, 1, [0]⟩ rfl rfl (hoo'.out.below (bal (Below.refl _ _) _)) (own_lit (.int .i32) 21 0 w1 [0] (by simp) (by simp)).rd (by have := hsz0.out; simp; omega) kW_apart (by simp only [List.length_singleton]; omega) ?_; intro o2 w9 hown hl2 hgr hat; have hB9 := Lib.hid (show Below w.heap.size w w9 from Below.grown (bthen hB1.out (bal (Below.refl _ _) (.cells #[.int .i32 0] 21))) hgr (by have := hB1.out.size; simp; omega) (fun q hq => by have := hoo'.out.ge q hq.symm; omega)); have hx9 := Lib.hid (show w9.heap[w.heap.size]? = some (.cells [.int .i64 t.kind, t.args.val, t.to.val, .int .i32 t.imm].toArray 81 (0, 0)) from (hgr.block _ (by have := hsz1.out; simp; omega) (fun e => by have := hoo'.out.ge _ e; omega)).trans ((Below.heap_alloc _ _ _ hsz1.out).trans hbx1.out)); have c0 := bx_cell (j := 0) hx9.out rfl; have c2 := bx_cell (j := 2) hx9.out rfl; have c3 := bx_cell (j := 3) hx9.out rfl; have hRK := Lib.hid (h'.out.go hB9.out); have hl2' := Lib.hid (show o2.l = s.words t.args.l ++ [0] from by rw [hl2, hol'.out]); have hlw : 0 < o2.l.length := (by rw [hl2]; simp); obtain ⟨b4, o4, h4, hb4, hc4⟩ := getW 25 21 Try.underlying25 (by kernel_rfl) hown.rd 0 hlw rfl; rw [Nat.add_zero] at hc4; have hv0 := Lib.hid (show o2.l[0] = (s.words t.args.l ++ [0]).getD 0 0 from by rw [wd0]; simp [hl2'.out]); clear hown hl2 hgr hat; have hne : (o2.l[0] != 0) = false := (by rw [hv0.out]; simpa using hv2.out); obtain ⟨b5, o5, h5, hb5, hc5⟩ := getI 38 3 Try.underlying38 (by kernel_rfl) (kI.sl.below ht'.out.2 hB9.out) 1 hk2 rfl; rw [hto.out] at hc5))
      go_ret
      exact ⟨rfl, ⟨_, _, _, hRK.out⟩, ChI.of hB9.out⟩
  · rw [if_neg (show ¬ t.p.kind = 1 by show ¬ t.kind = 1; omega), if_neg (show ¬ t.p.kind = 2 by show ¬ t.kind = 2; omega), if_pos (show t.p.kind = 3 from hop)] at hx
    have d1 : (t.kind == 1) = false := by simp [hop]
    have d2 : (t.kind == 2) = false := by simp [hop]
    have d3 : (t.kind == 3) = true := by simp [hop]
    split at hx
    · exact absurd hx (by simp)
    rename_i hne
    obtain ⟨nb, hnb, hpr⟩ := Option.map_eq_some_iff.1 hx
    obtain ⟨hk, hnk⟩ := List.getElem?_eq_some_iff.1 hnb
    simp only [Prod.mk.injEq] at hpr
    obtain ⟨rfl, rfl⟩ := hpr
    have hlen : t.p.to.length = t.to.l.length := rfl
    obtain ⟨kx, hkx⟩ : ∃ kx, kx = (min ((s.words t.args.l ++ [0]).getD 0 0 % 4294967296) ((t.to.l.length : Int) - 1)).toNat := ⟨_, rfl⟩
    have hk2 : kx < t.to.l.length := by rw [hkx]; exact hk
    have hnk2 := Lib.hid (show t.to.l[kx] = nb from by subst hkx; exact hnk)
    have hkx' := Lib.hid hkx
    have hmod : ((t.to.l.length : Int) - 1) % 4294967296 = (t.to.l.length : Int) - 1 := by omega
    clear hx hnb hnk hk hkx hop hne
    go_wp2_with (at_builtin; go_must (refine wpList_app kW (by decide) kW_one w0.heap.size rfl 25 21 _ _ rfl (.int .i32 0) 4 Try.underlying25 infoW rfl (by decide) _ o ⟨some ⟨w1.heap.size, 0, none⟩, 1, [0]⟩ rfl rfl (hoo'.out.below (bal (Below.refl _ _) _)) (own_lit (.int .i32) 21 0 w1 [0] (by simp) (by simp)).rd (by have := hsz0.out; simp; omega) kW_apart (by simp only [List.length_singleton]; omega) ?_; intro o2 w9 hown hl2 hgr hat; have hB9 := Lib.hid (show Below w.heap.size w w9 from Below.grown (bthen hB1.out (bal (Below.refl _ _) (.cells #[.int .i32 0] 21))) hgr (by have := hB1.out.size; simp; omega) (fun q hq => by have := hoo'.out.ge q hq.symm; omega)); have hx9 := Lib.hid (show w9.heap[w.heap.size]? = some (.cells [.int .i64 t.kind, t.args.val, t.to.val, .int .i32 t.imm].toArray 81 (0, 0)) from (hgr.block _ (by have := hsz1.out; simp; omega) (fun e => by have := hoo'.out.ge _ e; omega)).trans ((Below.heap_alloc _ _ _ hsz1.out).trans hbx1.out)); have c0 := bx_cell (j := 0) hx9.out rfl; have c2 := bx_cell (j := 2) hx9.out rfl; have c3 := bx_cell (j := 3) hx9.out rfl; have hRK := Lib.hid (h'.out.go hB9.out); have hl2' := Lib.hid (show o2.l = s.words t.args.l ++ [0] from by rw [hl2, hol'.out]); have hlw : 0 < o2.l.length := (by rw [hl2]; simp); obtain ⟨b4, o4, h4, hb4, hc4⟩ := getW 25 21 Try.underlying25 (by kernel_rfl) hown.rd 0 hlw rfl; rw [Nat.add_zero] at hc4; have hv0 := Lib.hid (show o2.l[0] = (s.words t.args.l ++ [0]).getD 0 0 from by rw [wd0]; simp [hl2'.out]); clear hown hl2 hgr hat; obtain ⟨b5, o5, h5, hb5, hc5⟩ := getU 38 3 Try.underlying38 (by kernel_rfl) (kI.sl.below ht'.out.2 hB9.out) (min (o2.l[0] % 4294967296) ((t.to.l.length : Int) - 1)) hk2 (by rw [hkx'.out, ← hv0.out]; omega); rw [hnk2.out] at hc5))
    go_quiet (fail)
    go_wp2_with fail
    go_ret
    exact ⟨rfl, ⟨_, _, _, hRK.out.go (ckdn _ _)⟩, (ChI.of hB9.out).below (ckdn _ _)⟩
  · rw [if_neg (show ¬ t.p.kind = 1 by show ¬ t.kind = 1; omega), if_neg (show ¬ t.p.kind = 2 by show ¬ t.kind = 2; omega), if_neg (show ¬ t.p.kind = 3 by show ¬ t.kind = 3; omega), if_pos (show t.p.kind = 4 from hop)] at hx
    have d1 : (t.kind == 1) = false := by simp [hop]
    have d2 : (t.kind == 2) = false := by simp [hop]
    have d3 : (t.kind == 3) = false := by simp [hop]
    have d4 : (t.kind == 4) = true := by simp [hop]
    injection hx with hx
    simp only [Prod.mk.injEq] at hx
    obtain ⟨rfl, rfl⟩ := hx
    clear hop
    go_wp2_with (at_builtin; go_must (refine wpList_app kW (by decide) kW_one w0.heap.size rfl 25 21 _ _ rfl (.int .i32 0) 4 Try.underlying25 infoW rfl (by decide) _ o ⟨some ⟨w1.heap.size, 0, none⟩, 1, [0]⟩ rfl rfl (hoo'.out.below (bal (Below.refl _ _) _)) (own_lit (.int .i32) 21 0 w1 [0] (by simp) (by simp)).rd (by have := hsz0.out; simp; omega) kW_apart (by simp only [List.length_singleton]; omega) ?_; intro o2 w9 hown hl2 hgr hat; have hB9 := Lib.hid (show Below w.heap.size w w9 from Below.grown (bthen hB1.out (bal (Below.refl _ _) (.cells #[.int .i32 0] 21))) hgr (by have := hB1.out.size; simp; omega) (fun q hq => by have := hoo'.out.ge q hq.symm; omega)); have hx9 := Lib.hid (show w9.heap[w.heap.size]? = some (.cells [.int .i64 t.kind, t.args.val, t.to.val, .int .i32 t.imm].toArray 81 (0, 0)) from (hgr.block _ (by have := hsz1.out; simp; omega) (fun e => by have := hoo'.out.ge _ e; omega)).trans ((Below.heap_alloc _ _ _ hsz1.out).trans hbx1.out)); have c0 := bx_cell (j := 0) hx9.out rfl; have c2 := bx_cell (j := 2) hx9.out rfl; have c3 := bx_cell (j := 3) hx9.out rfl; have hRK := Lib.hid (h'.out.go hB9.out); have hl2' := Lib.hid (show o2.l = s.words t.args.l ++ [0] from by rw [hl2, hol'.out]); have hlw : 0 < o2.l.length := (by rw [hl2]; simp); obtain ⟨b4, o4, h4, hb4, hc4⟩ := getW 25 21 Try.underlying25 (by kernel_rfl) hown.rd 0 hlw rfl; rw [Nat.add_zero] at hc4; have hv0 := Lib.hid (show o2.l[0] = (s.words t.args.l ++ [0]).getD 0 0 from by rw [wd0]; simp [hl2'.out]); clear hown hl2 hgr hat))
    refine (inEnd hRK.out 1 o2.l[0]).mono ?_
    rintro e w8 ⟨rfl, ⟨M1, C1, A1, h1⟩, hc1⟩
    have h1' := Lib.hid h1
    have hc1' := Lib.hid ((ChI.of hB9.out).trans hc1)
    clear h1 hc1
    go_wp2_with fail
    go_ret
    have h2 := h1'.out
    rw [hv0.out] at h2
    exact ⟨rfl, ⟨_, _, _, h2⟩, hc1'.out⟩
  · rw [if_neg (show ¬ t.p.kind = 1 from q1), if_neg (show ¬ t.p.kind = 2 from q2), if_neg (show ¬ t.p.kind = 3 from q3), if_neg (show ¬ t.p.kind = 4 from q4)] at hx
    have d1 : (t.kind == 1) = false := by simp [q1]
    have d2 : (t.kind == 2) = false := by simp [q2]
    have d3 : (t.kind == 3) = false := by simp [q3]
    have d4 : (t.kind == 4) = false := by simp [q4]
    injection hx with hx
    simp only [Prod.mk.injEq] at hx
    obtain ⟨rfl, rfl⟩ := hx
    clear q1 q2 q3 q4
    go_wp2_with (at_builtin; go_must (refine wpList_app kW (by decide) kW_one w0.heap.size rfl 25 21 _ _ rfl (.int .i32 0) 4 Try.underlying25 infoW rfl (by decide) _ o ⟨some ⟨w1.heap.size, 0, none⟩, 1, [0]⟩ rfl rfl (hoo'.out.below (bal (Below.refl _ _) _)) (own_lit (.int .i32) 21 0 w1 [0] (by simp) (by simp)).rd (by have := hsz0.out; simp; omega) kW_apart (by simp only [List.length_singleton]; omega) ?_; intro o2 w9 hown hl2 hgr hat; have hB9 := Lib.hid (show Below w.heap.size w w9 from Below.grown (bthen hB1.out (bal (Below.refl _ _) (.cells #[.int .i32 0] 21))) hgr (by have := hB1.out.size; simp; omega) (fun q hq => by have := hoo'.out.ge q hq.symm; omega)); have hx9 := Lib.hid (show w9.heap[w.heap.size]? = some (.cells [.int .i64 t.kind, t.args.val, t.to.val, .int .i32 t.imm].toArray 81 (0, 0)) from (hgr.block _ (by have := hsz1.out; simp; omega) (fun e => by have := hoo'.out.ge _ e; omega)).trans ((Below.heap_alloc _ _ _ hsz1.out).trans hbx1.out)); have c0 := bx_cell (j := 0) hx9.out rfl; have c2 := bx_cell (j := 2) hx9.out rfl; have c3 := bx_cell (j := 3) hx9.out rfl; have hRK := Lib.hid (h'.out.go hB9.out); have hl2' := Lib.hid (show o2.l = s.words t.args.l ++ [0] from by rw [hl2, hol'.out]); have hlw : 0 < o2.l.length := (by rw [hl2]; simp); obtain ⟨b4, o4, h4, hb4, hc4⟩ := getW 25 21 Try.underlying25 (by kernel_rfl) hown.rd 0 hlw rfl; rw [Nat.add_zero] at hc4; have hv0 := Lib.hid (show o2.l[0] = (s.words t.args.l ++ [0]).getD 0 0 from by rw [wd0]; simp [hl2'.out]); clear hown hl2 hgr hat))
    refine (inEnd hRK.out 2 t.imm).mono ?_
    rintro e w8 ⟨rfl, ⟨M1, C1, A1, h1⟩, hc1⟩
    have h1' := Lib.hid h1
    have hc1' := Lib.hid ((ChI.of hB9.out).trans hc1)
    clear h1 hc1
    go_wp2_with fail
    go_ret
    exact ⟨rfl, ⟨_, _, _, h1'.out⟩, hc1'.out⟩
end
end Go.Proofs.Ytjlehpgfhlkjlaa
