/-
  graph.Order: the walk over blocks, by a closure that calls itself.
  graph.Order.
-/
import Derived.Test.YtjlehpgfhlkjlaaPOrd
import Derived.OneCell
set_option linter.all false
namespace Go.Proofs.Ytjlehpgfhlkjlaa
open Go.RowKit Jq
set_option linter.unusedVariables false
/-- The closure, as it lies in its own box. -/
abbrev overV (B : Nat) : Value := .func (.func 153) #[] #[.pointer (some ⟨B + 2, 0, none⟩), .pointer (some ⟨B, 0, none⟩), .pointer (some ⟨B + 4, 0, none⟩), .pointer (some ⟨B + 3, 0, none⟩)]
/-- What stands while Order walks: its boxes, what it has been at, what it has left. -/
structure OS (B N : Nat) (w0 : World) (rows : Sl (Sl Int)) (wr : World) (st : DS) (o : Sl Int) : Prop where
  bR : wr.heap[B]? = some (.cells #[rows.val] 146 (0, 0))
  bT : wr.heap[B + 2]? = some (.cells #[.slice (some ⟨B + 1, 0, none⟩) N N] 128 (0, 0))
  bO : wr.heap[B + 3]? = some (.cells #[o.val] 38 (0, 0))
  bF : wr.heap[B + 4]? = some (.cells #[overV B] 189 (0, 0))
  th : Own kB 4 (B + 1) wr ⟨some ⟨B + 1, 0, none⟩, N, st.1⟩
  len : st.1.length = N
  out : Own kI 3 (B + 5) wr o
  outl : o.l = st.2
  below : Below w0.heap.size w0 wr
  base : w0.heap.size = B
namespace OS
variable {B N : Nat} {w0 wr W : World} {rows : Sl (Sl Int)} {st : DS} {o : Sl Int}
theorem mark (h : OS B N w0 rows wr st o) {k : Nat} (hk : k < N) :
    wr.cell? ⟨B + 1, k, none⟩ = some (.bool (st.1.getD k true)) ∧ wr.frozen? ⟨B + 1, k, none⟩ = false ∧ OS B N w0 rows (wr.setCell ⟨B + 1, k, none⟩ (.bool true)) (st.1.set k true, st.2) o := by
  have hk1 : k < st.1.length := by rw [h.len]; exact hk
  obtain ⟨G, hA, hge, hlt, hc, hf, hob, hset⟩ := h.th.spot .bool rfl (fun _ => rfl) (k := k) hk1
  simp only [Option.some.injEq, Addr.mk.injEq] at hA
  obtain ⟨rfl, _⟩ := hA
  refine ⟨?_, hf, ⟨(Below.heap_setCell _ _ _ _ (by simp)).trans h.bR, (Below.heap_setCell _ _ _ _ (by simp)).trans h.bT, (Below.heap_setCell _ _ _ _ (by simp)).trans h.bO, (Below.heap_setCell _ _ _ _ (by simp)).trans h.bF, hset true trivial (fun q hq => by simp [kB, Kd.scalar] at hq), by simp [h.len], ?_, h.outl, ?_, h.base⟩⟩
  · rw [hc]; simp [List.getD_eq_getElem?_getD, hk1]
  · refine h.out.mv fun q hq => Below.heap_setCell _ _ _ _ ?_
    rcases hq with hq | ⟨x, _, hq⟩
    · have := h.out.ge q hq
      show q ≠ B + 1
      omega
    · simp [kI, Kd.scalar] at hq
  · exact bset h.below _ _ (by rw [h.base]; show B ≤ B + 1; omega)
theorem below' (h : OS B N w0 rows wr st o) (hb : Below wr.heap.size wr W) : OS B N w0 rows W st o :=
  ⟨(hb.block _ (lt_of_block h.bR)).trans h.bR, (hb.block _ (lt_of_block h.bT)).trans h.bT, (hb.block _ (lt_of_block h.bO)).trans h.bO, (hb.block _ (lt_of_block h.bF)).trans h.bF, h.th.below hb, h.len, h.out.below hb, h.outl, bthen h.below hb, h.base⟩
theorem app (h : OS B N w0 rows wr st o) {w9 : World} {o3 : Sl Int} {a : Int} (hg : wr.grownBy w9 o.val.ownBlock) (ho : Own kI 3 (B + 5) w9 o3) (hl : o3.l = o.l ++ [a]) :
    w9.cell? ⟨B + 3, 0, none⟩ = some o.val ∧ w9.frozen? ⟨B + 3, 0, none⟩ = false ∧ OS B N w0 rows (w9.setCell ⟨B + 3, 0, none⟩ o3.val) (st.1, st.2 ++ [a]) o3 := by
  have hge : ∀ q, o.val.ownBlock = some q → B + 5 ≤ q := fun q hq => h.out.ge q hq.symm
  have hb : ∀ k, k < B + 5 → k < wr.heap.size → w9.heap[k]? = wr.heap[k]? := fun k hk hk2 => hg.block k hk2 (fun e => by have := hge k e.symm; omega)
  have qO := (hb _ (by omega) (lt_of_block h.bO)).trans h.bO
  refine ⟨by simp [World.cell?, qO], by simp [World.frozen?, qO], ⟨(Below.heap_setCell _ _ _ _ (by simp)).trans ((hb _ (by omega) (lt_of_block h.bR)).trans h.bR), (Below.heap_setCell _ _ _ _ (by simp)).trans ((hb _ (by omega) (lt_of_block h.bT)).trans h.bT), one_setCell qO, (Below.heap_setCell _ _ _ _ (by simp)).trans ((hb _ (by omega) (lt_of_block h.bF)).trans h.bF), ?_, h.len, ?_, ?_, ?_, h.base⟩⟩
  · refine h.th.mv fun q hq => ?_
    rcases hq with hq | ⟨x, _, hq⟩
    · have hq2 : q = B + 1 := by simpa [Sl.val, Value.ownBlock] using hq
      subst hq2
      exact (Below.heap_setCell _ _ _ _ (by simp)).trans (hb _ (by omega) (h.th.lt _ (Or.inl hq)))
    · simp [kB, Kd.scalar] at hq
  · refine ho.mv fun q hq => Below.heap_setCell _ _ _ _ ?_
    rcases hq with hq | ⟨x, _, hq⟩
    · have := ho.ge q hq
      show q ≠ B + 3
      omega
    · simp [kI, Kd.scalar] at hq
  · rw [hl, h.outl]
  · have hs := h.below.size
    have hb0 := h.base
    exact bset (h.below.grown hg h.below.size (fun q hq => by have := hge q hq; omega)) _ _ (by show w0.heap.size ≤ B + 3; omega)
end OS
set_option maxRecDepth 100000 in
set_option maxHeartbeats 1000000 in
/-- 'graph.Order$1'. -/
theorem grOver (B N : Nat) (w0 : World) (rows : Sl (Sl Int)) (hr : kI.sl.sl.rd w0 rows) (hN : rows.l.length = N) (hN2 : N ≤ 512) (hin : ∀ x, x ∈ rows.l → ∀ b, b ∈ x.l → 0 ≤ b ∧ b < (N : Int)) :
    ∀ (fuel : Nat) (a : Nat) (w : World) (st : DS) (o : Sl Int), OS B N w0 rows w st o → a < N → st.1.getD a true = false → cnt st.1 ≤ fuel → st.2.length + cnt st.1 ≤ N →
    Calls Try.prog 153 #[.int .i64 (a : Int), .pointer (some ⟨B + 2, 0, none⟩), .pointer (some ⟨B, 0, none⟩), .pointer (some ⟨B + 4, 0, none⟩), .pointer (some ⟨B + 3, 0, none⟩)] w fun e w' => e = .returned (.tuple #[]) ∧ ∃ o', OS B N w0 rows w' (dfs (rows.l.map Sl.l) fuel a st) o'
  | 0, a, w, st, o, h, ha, hf, hc, hs => absurd (cnt_set st.1 a hf) (by omega)
  | fuel + 1, a, w, st, o, h, ha, hf, hc, hs => by
    have hcs := cnt_set st.1 a hf
    obtain ⟨p1, p2, p3⟩ := h.mark ha
    have i1 : w.cell? ⟨B + 2, 0, none⟩ = some (.slice (some ⟨B + 1, 0, none⟩) N N) := by simp [World.cell?, h.bT]
    have iR : w.heap[B]? = some (.cells #[rows.val] 146 (0, 0)) := h.bR
    have i2 : (w.setCell ⟨B + 1, a, none⟩ (.bool true)).cell? ⟨B, 0, none⟩ = some rows.val := by simp [World.cell?, p3.bR]
    obtain ⟨b1, o1, h1, hb1, hc1, hr1⟩ := getS 146 38 Try.underlying146 (by kernel_rfl) (kI.sl.sl.below hr p3.below) a (by omega) rfl
    have p3' := Lib.hid p3
    have hr1' := Lib.hid hr1
    have hbd := Kd.bound (d := kI) hr1
    clear p3 hr1 h
    go_enter Try.func153, Try.ntmps153
    go_wp2_with fail
    clear i1 i2 h1 hc1 p1 p2
    have hrow := Lib.hid (show (rows.l.map Sl.l).getD a [] = rows.l[a].l by simp [List.getD_eq_getElem?_getD, hN, ha])
    go_loopg [16] (rows.l[a].l.length) (fun g q wr => ∃ (j : Nat) (s2 : DS) (o2 : Sl Int), q = .int .i64 j ∧ j ≤ rows.l[a].l.length ∧ g = rows.l[a].l.length - j ∧ OS B N w0 rows wr s2 o2 ∧ cnt s2.1 ≤ fuel ∧ s2.2.length + cnt s2.1 ≤ N - 1 ∧ visitD (dfs (rows.l.map Sl.l) fuel) (rows.l[a].l.drop j) s2 = visitD (dfs (rows.l.map Sl.l) fuel) rows.l[a].l (st.1.set a true, st.2))
    case atStart => exact ⟨0, _, o, rfl, Nat.zero_le _, rfl, p3'.out, by show cnt (st.1.set a true) ≤ fuel; omega, by show st.2.length + cnt (st.1.set a true) ≤ N - 1; omega, by simp⟩
    case round =>
      obtain ⟨j, s2, o2, rfl, hj, hg, hO, hcn, hsm, hv⟩ := hrel
      have hO' := Lib.hid hO
      have hv' := Lib.hid hv
      have hg' := Lib.hid hg
      clear hv hg
      by_cases hlt : j < rows.l[a].l.length
      · have hmem := hin _ (List.getElem_mem (show a < rows.l.length by omega)) _ (List.getElem_mem hlt)
        obtain ⟨k, hk⟩ : ∃ k : Nat, rows.l[a].l[j] = (k : Int) := ⟨rows.l[a].l[j].toNat, by omega⟩
        have hkN : k < N := by rw [hk] at hmem; omega
        obtain ⟨b2, o2', h2, hb2, hc2⟩ := getI 38 3 Try.underlying38 (by kernel_rfl) (kI.sl.below (hr.2.2.2 _ (List.getElem_mem (show a < rows.l.length by omega))) hO.below) j hlt rfl
        rw [hk] at hc2
        obtain ⟨p1, _, _⟩ := hO.mark hkN
        have hvj := visitD_at (dfs (rows.l.map Sl.l) fuel) rows.l[a].l hlt s2
        rw [hk] at hvj
        have hvj' := Lib.hid hvj
        have i1 : wr.cell? ⟨B + 2, 0, none⟩ = some (.slice (some ⟨B + 1, 0, none⟩) N N) := by simp [World.cell?, hO.bT]
        have i3 : wr.cell? ⟨B + 4, 0, none⟩ = some (overV B) := by simp [World.cell?, hO.bF]
        clear hO hvj hk hmem
        have hcn' := Lib.hid hcn
        have hsm' := Lib.hid hsm
        clear hcn hsm
        cases hm : s2.1.getD k true with
        | true =>
          rw [hm] at p1
          have hm' := Lib.hid hm
          clear hm
          go_wp2_with fail
          go_roundg (rows.l[a].l.length - (j + 1))
          case measure => have := hg'.out; omega
          case rel => exact ⟨j + 1, s2, o2, by go_num, by omega, rfl, hO'.out, hcn'.out, hsm'.out, by rw [← hv'.out, hvj'.out, Int.toNat_natCast, if_pos hm'.out]⟩
        | false =>
          rw [hm] at p1
          have hm' := Lib.hid hm
          clear hm
          go_wp2_with fail
          refine (grOver B N w0 rows hr hN hN2 hin fuel k wr s2 o2 hO'.out hkN hm'.out hcn'.out (by have := hsm'.out; omega)).mono ?_
          rintro e w1 ⟨rfl, o3, hO3⟩
          have hgd := Lib.hid (dfs_good (rows.l.map Sl.l) fuel (N - 1) k s2 (by simpa using hm'.out))
          have hO3' := Lib.hid hO3
          clear hO3
          go_wp2_with fail
          go_roundg (rows.l[a].l.length - (j + 1))
          case measure => have := hg'.out; omega
          case rel => exact ⟨j + 1, _, o3, by go_num, by omega, rfl, hO3'.out, Nat.le_trans hgd.out.2.1 hcn'.out, hgd.out.2.2 hsm'.out, by rw [← hv'.out, hvj'.out, Int.toNat_natCast, hm'.out]; rfl⟩
      · have hve := visitD_end (dfs (rows.l.map Sl.l) fuel) rows.l[a].l (show rows.l[a].l.length ≤ j by omega) s2
        have hve' := Lib.hid (hve.symm.trans hv'.out)
        have i4 : wr.cell? ⟨B + 3, 0, none⟩ = some o2.val := by simp [World.cell?, hO.bO]
        have hbs : B + 5 ≤ wr.heap.size := by have := lt_of_block hO.bF; omega
        have hol : o2.l.length ≤ 512 := by rw [hO.outl]; omega
        clear hO hve
        go_wp2_with (at_builtin; go_must (refine wpList_app kI (by decide) kI_one (B + 5) rfl 38 3 _ _ rfl (.int .i64 0) 8 Try.underlying38 infoI rfl (by decide) _ o2 ⟨some ⟨wr.heap.size, 0, none⟩, 1, [(a : Int)]⟩ rfl rfl (hO'.out.out.below (bal (Below.refl _ _) _)) (own_lit (.int .i64) 3 0 wr [(a : Int)] (by simp) (by simp)).rd (by simp; omega) kI_apart (by simp only [List.length_singleton]; omega) ?_; intro o3 w9 hown hl2 hgr hat; obtain ⟨q1, q2, q3⟩ := (hO'.out.below' (bal (Below.refl _ _) (.cells #[.int .i64 (a : Int)] 3))).app hgr hown hl2; have q3' := Lib.hid q3; clear q3 hown hl2 hgr hat))
        go_end0
        refine ⟨rfl, o3, ?_⟩
        have h := q3'.out
        have e1 : dfs (rows.l.map Sl.l) (fuel + 1) a st = (s2.1, s2.2 ++ [(a : Int)]) := by
          simp only [dfs, Int.toNat_natCast]
          rw [hrow.out, ← hve'.out]
        rw [e1]
        exact h
end Go.Proofs.Ytjlehpgfhlkjlaa
set_option linter.all false
namespace Jq
open Go Go.RowKit
theorem mem_compactUpTo (d : Array Int) : ∀ (m : Nat), m ≤ d.size → ∀ x, x ∈ Lib.compactUpTo d m → x ∈ d.toList
  | 0, _, x, h => by simp [Lib.compactUpTo] at h
  | m + 1, hm, x, h => by
    rw [Lib.compactUpTo_succ, List.mem_append] at h
    rcases h with h | h
    · exact mem_compactUpTo d m (by omega) x h
    · split at h
      · simp at h
        subst h
        rw [getElem!_pos d m (by omega)]
        simp
      · simp at h
theorem mem_kept {n : Int} {l : List Int} {x : Int} (h : x ∈ keptOf n l) : x ∈ l ∧ 0 ≤ x ∧ x < n := by
  have h1 := mem_compactUpTo _ _ (by simp) x h
  simp only [List.mem_mergeSort, List.mem_filter, isB, Bool.and_eq_true, decide_eq_true_eq] at h1
  exact ⟨h1.1, h1.2.1, h1.2.2⟩
end Jq
namespace Go.Proofs.Ytjlehpgfhlkjlaa
open Go.RowKit Jq
set_option linter.unusedVariables false
set_option maxRecDepth 100000 in
set_option maxHeartbeats 1000000 in
/-- 'graph.Order'. -/
theorem grOrder (s : Sl (Sl Int)) (w : World) (hs : kI.sl.sl.rd w s) (h512 : s.l.length ≤ 512) (h8 : ∀ x, x ∈ s.l → x.l.length * 8 ≤ 140737488355328) : Calls Try.prog 143 #[s.val] w (RetSl kI 3 w (orderOf ((s.l.map Sl.l).map (keptOf s.l.length)))) := by
  have hs' := Lib.hid hs
  have h8' := Lib.hid h8
  have hmk := mkReached s.l.length h512
  clear hs h8
  by_cases h0 : s.l.length = 0
  · have e : orderOf ((s.l.map Sl.l).map (keptOf s.l.length)) = [] := by simp [orderOf, h0]
    rw [e]
    clear e
    go_enter Try.func143, Try.ntmps143
    go_wp2_with fail
    go_ret
    exact nil_ret _ _ (Below.refl _ _)
  · have h0' := Lib.hid h0
    have d0 : ((s.l.length : Int) == 0) = false := by simpa using h0
    have hpos : 0 < s.l.length := by omega
    clear h0
    go_enter Try.func143, Try.ntmps143
    go_wp2_with fail
    refine (grClean s w hs'.out h512 h8'.out).mono ?_
    rintro e w1 ⟨rows, rfl, hrl, hro, hrb⟩
    have hrl' := Lib.hid hrl
    have hro' := Lib.hid hro
    have hrb' := Lib.hid hrb
    clear hrl hro hrb
    go_wp2_with fail
    clear hmk d0
    obtain ⟨W, hW⟩ : ∃ W, W = ((((w1.alloc (.cells #[rows.val] 146)).alloc (.cells (madeCells #[.bool false] s.l.length) 4)).alloc (.cells #[.slice (some ⟨w1.heap.size + 1, 0, none⟩) s.l.length s.l.length] 128)).alloc (.cells #[.slice none 0 0] 38)).alloc (.cells #[overV w1.heap.size] 189) := ⟨_, rfl⟩
    have hOS : OS w1.heap.size s.l.length w1 rows W (List.replicate s.l.length false, []) nilSl := by
      refine ⟨?_, ?_, ?_, ?_, ?_, by simp, Own.nil _ _ _ _, rfl, ?_, rfl⟩
      · subst hW; repeat (first | exact ask_last _ _ _ (by simp) | refine (Below.heap_alloc _ _ _ (by simp <;> omega)).trans ?_)
      · subst hW; repeat (first | exact ask_last _ _ _ (by simp) | refine (Below.heap_alloc _ _ _ (by simp <;> omega)).trans ?_)
      · subst hW; repeat (first | exact ask_last _ _ _ (by simp) | refine (Below.heap_alloc _ _ _ (by simp <;> omega)).trans ?_)
      · subst hW; repeat (first | exact ask_last _ _ _ (by simp) | refine (Below.heap_alloc _ _ _ (by simp <;> omega)).trans ?_)
      · have h := own_made (d := kB) .bool rfl (fun _ => rfl) false (fun _ => trivial) rfl 4 (w1.heap.size + 1) (w1.alloc (.cells #[rows.val] 146)) s.l.length (by simp) (by omega)
        rw [show (w1.alloc (.cells #[rows.val] 146)).heap.size = w1.heap.size + 1 by simp] at h
        subst hW
        exact ((h.below (bal (Below.refl _ _) _)).below (bal (Below.refl _ _) _)).below (bal (Below.refl _ _) _)
      · subst hW; repeat (first | exact Below.refl _ _ | refine bal ?_ _)
    have hin : ∀ x, x ∈ rows.l → ∀ b, b ∈ x.l → 0 ≤ b ∧ b < (s.l.length : Int) := by
      intro x hx b hb
      have h1 : x.l ∈ rows.l.map Sl.l := List.mem_map_of_mem hx
      rw [hrl'.out] at h1
      obtain ⟨y, _, hy⟩ := List.mem_map.1 h1
      rw [← hy] at hb
      exact (mem_kept hb).2
    have hlen : rows.l.length = s.l.length := by
      have h := congrArg List.length hrl'.out
      simpa using h
    have hcall := grOver w1.heap.size s.l.length w1 rows hro'.out.outer.rd hlen h512 hin s.l.length 0 W (List.replicate s.l.length false, []) nilSl hOS hpos (by simp [List.getD_eq_getElem?_getD, hpos]) (by simp [cnt]) (by simp [cnt])
    rw [show ((0 : Nat) : Int) = 0 from rfl, hrl'.out] at hcall
    have hcall' := Lib.hid hcall
    clear hcall hOS hin
    have hW' := Lib.hid hW
    rw [show ((((w1.alloc (.cells #[rows.val] 146)).alloc (.cells (madeCells #[.bool false] s.l.length) 4)).alloc (.cells #[.slice (some ⟨w1.heap.size + 1, 0, none⟩) s.l.length s.l.length] 128)).alloc (.cells #[.slice none 0 0] 38)).alloc (.cells #[overV w1.heap.size] 189) = W from hW.symm]
    clear hW
    refine hcall'.out.mono ?_
    rintro e w2 ⟨rfl, o, hO⟩
    have hO' := Lib.hid hO
    have i1 : w2.cell? ⟨w1.heap.size + 3, 0, none⟩ = some o.val := by simp [World.cell?, hO.bO]
    clear hO
    go_wp2_with fail
    refine (own_reverse o (w1.heap.size + 5) w2 hO'.out.out).mono ?_
    rintro e w3 ⟨rfl, o3, hv3, hl3, ho3, hg3⟩
    have q3 := (hg3.block (w1.heap.size + 3) (lt_of_block hO'.out.bO) (fun e => by have := hO'.out.out.ge _ e; omega)).trans hO'.out.bO
    have i2 : w3.cell? ⟨w1.heap.size + 3, 0, none⟩ = some o.val := by simp [World.cell?, q3]
    have hv3' := Lib.hid hv3
    have hl3' := Lib.hid hl3
    have ho3' := Lib.hid ho3
    have hB3 := Lib.hid (hO'.out.below.grown hg3 hO'.out.below.size (fun q hq => by have := hO'.out.out.ge q hq.symm; omega))
    clear hv3 hl3 ho3 hg3 q3 i1
    go_wp2_with fail
    go_ret
    have hsz := hrb'.out.size
    refine ⟨o3, by rw [hv3'.out]; rfl, ?_, ho3'.out.lower (by omega), bthen hrb'.out hB3.out⟩
    rw [hl3'.out, hO'.out.outl, orderOf, if_neg (by simpa using h0'.out)]
    simp
end Go.Proofs.Ytjlehpgfhlkjlaa
