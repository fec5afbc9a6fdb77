/-
  graph.Idom.
-/
import Derived.Test.YtjlehpgfhlkjlaaPrds
set_option linter.all false
namespace Jq
open Go Go.RowKit
theorem tl_rdI {s : Sl Int} {w : World} (h : kI.sl.rd w s) (h1 : 1 ≤ s.l.length) : kI.sl.rd w s.tl := by
  obtain ⟨b, o, hA, hb, hc⟩ := h.2.2.1 (by omega)
  have hcap := h.1
  have hbd := h.2.1
  unfold Sl.tl
  by_cases hc1 : s.cap = 1
  · refine ⟨?_, ?_, fun h0 => ?_, fun _ _ => trivial⟩
    · simp only [List.length_tail]; omega
    · simp only [List.length_tail]; omega
    · simp only [List.length_tail] at h0; omega
  · refine ⟨?_, ?_, fun h0 => ⟨b, o + 1, by simp [hc1, hA, Addr.add], hb, fun k hk j hj => ?_⟩, fun _ _ => trivial⟩
    · simp only [List.length_tail]; omega
    · simp only [List.length_tail]; omega
    · simp only [List.length_tail] at hk
      have h5 := hc (k + 1) (by omega) j hj
      rw [List.getElem_tail, ← h5]
      congr 2
      simp only [kI, Kd.scalar]; omega
theorem prsE_fold_len : ∀ (l : List (Int × Int)) (out : List (List Int)), (l.foldl prsE out).length = out.length
  | [], _ => rfl
  | p :: l, out => by rw [List.foldl_cons, prsE_fold_len l, prsE_len]
theorem prsOf_len (rows : List (List Int)) : (prsOf rows).length = rows.length := by
  unfold prsOf
  rw [← prs_edges, prsE_fold_len, List.length_replicate]
theorem numFrom_at (l : List Int) {j : Nat} (hj : j < l.length) (out : List Int) : numFrom j (l.drop j) out = numFrom (j + 1) (l.drop (j + 1)) (out.set (l[j]).toNat (j : Int)) := by
  rw [List.drop_eq_getElem_cons hj, numFrom]
/-- What Idom holds: number, out; the rest stands as in wb. -/
structure IM (e n gn : Nat) (w wb : World) (nl ol : List Int) (wr : World) : Prop where
  num : Jq.Own kI e w.heap.size wr ⟨some ⟨gn, 0, none⟩, n, nl⟩
  out : Jq.Own kI e w.heap.size wr ⟨some ⟨gn + 1, 0, none⟩, n, ol⟩
  nlen : nl.length = n
  olen : ol.length = n
  keep : ∀ k, k < wb.heap.size → k ≠ gn → k ≠ gn + 1 → wr.heap[k]? = wb.heap[k]?
  size : wb.heap.size ≤ wr.heap.size
  below : Below w.heap.size w wr
section
variable {e n gn : Nat} {w wb wr W : World} {nl ol : List Int}
theorem IM.go (h : IM e n gn w wb nl ol wr) (hb : Below wr.heap.size wr W) : IM e n gn w wb nl ol W :=
  ⟨h.num.below hb, h.out.below hb, h.nlen, h.olen, fun k hk h1 h2 => (hb.block k (Nat.lt_of_lt_of_le hk h.size)).trans (h.keep k hk h1 h2), Nat.le_trans h.size hb.size, bthen h.below hb⟩
theorem IM.base (h : IM e n gn w wb nl ol wr) : IM e n gn w wr nl ol wr := ⟨h.num, h.out, h.nlen, h.olen, fun _ _ _ _ => rfl, Nat.le_refl _, h.below⟩
theorem IM.num_at (h : IM e n gn w wb nl ol wr) {k : Nat} (hk : k < n) : wr.cell? ⟨gn, k, none⟩ = some (.int .i64 (nl[k]'(by rw [h.nlen]; exact hk))) ∧ wr.frozen? ⟨gn, k, none⟩ = false ∧ ∀ v : Int, IM e n gn w wb (nl.set k v) ol (wr.setCell ⟨gn, k, none⟩ (.int .i64 v)) := by
  obtain ⟨g, hA, hb, hl, hc, hf, hob, hset⟩ := h.num.spot (.int .i64) rfl (fun _ => rfl) (k := k) (by show k < nl.length; rw [h.nlen]; exact hk)
  simp only [Option.some.injEq, Addr.mk.injEq] at hA
  obtain ⟨rfl, _⟩ := hA
  refine ⟨hc, hf, fun v => ⟨hset v trivial (fun q hq => by simp [kI, Kd.scalar] at hq), h.out.mv fun q hq => Below.heap_setCell _ _ _ _ ?_, by simpa using h.nlen, h.olen, fun q hq h1 h2 => (Below.heap_setCell _ _ _ _ h1).trans (h.keep q hq h1 h2), by simpa [World.setCell] using h.size, bset h.below _ _ hb⟩⟩
  rcases hq with hq | ⟨x, _, hq⟩
  · simp [Sl.val, Value.ownBlock] at hq
    show q ≠ gn
    omega
  · simp [kI, Kd.scalar] at hq
theorem IM.out_at (h : IM e n gn w wb nl ol wr) {k : Nat} (hk : k < n) : wr.cell? ⟨gn + 1, k, none⟩ = some (.int .i64 (ol[k]'(by rw [h.olen]; exact hk))) ∧ wr.frozen? ⟨gn + 1, k, none⟩ = false ∧ ∀ v : Int, IM e n gn w wb nl (ol.set k v) (wr.setCell ⟨gn + 1, k, none⟩ (.int .i64 v)) := by
  obtain ⟨g, hA, hb, hl, hc, hf, hob, hset⟩ := h.out.spot (.int .i64) rfl (fun _ => rfl) (k := k) (by show k < ol.length; rw [h.olen]; exact hk)
  simp only [Option.some.injEq, Addr.mk.injEq] at hA
  obtain ⟨rfl, _⟩ := hA
  refine ⟨hc, hf, fun v => ⟨h.num.mv fun q hq => Below.heap_setCell _ _ _ _ ?_, hset v trivial (fun q hq => by simp [kI, Kd.scalar] at hq), h.nlen, by simpa using h.olen, fun q hq h1 h2 => (Below.heap_setCell _ _ _ _ h2).trans (h.keep q hq h1 h2), by simpa [World.setCell] using h.size, bset h.below _ _ hb⟩⟩
  rcases hq with hq | ⟨x, _, hq⟩
  · simp [Sl.val, Value.ownBlock] at hq
    show q ≠ gn + 1
    omega
  · simp [kI, Kd.scalar] at hq
end
theorem take_set_succ {α : Type} (l r : List α) (j : Nat) (v : α) (hj : j < l.length) (h : l.take j = r) : (l.set j v).take (j + 1) = r ++ [v] := by
  rw [List.take_succ_eq_append_getElem (by simpa using hj), List.take_set_of_le (Nat.le_refl _), h, List.getElem_set_self]
theorem bestStep_cases {ol nl : List Int} {F : Nat} {best a b : Int} (h : bestStep ol nl F best a = some b) : ∃ (ka : Nat) (h1 : ka < nl.length), a = (ka : Int) ∧
    ((nl[ka] < 0 ∧ b = best) ∨ (0 ≤ nl[ka] ∧ ∃ h2 : ka < ol.length, ((ka ≠ 0 ∧ ol[ka] < 0 ∧ b = best) ∨ ((ka = 0 ∨ (ka ≠ 0 ∧ 0 ≤ ol[ka])) ∧ ((best < 0 ∧ b = a) ∨ (0 ≤ best ∧ comF ol nl F best a = some b)))))) := by
  unfold bestStep at h
  split at h
  · exact absurd h (by simp)
  · rename_i na hna
    obtain ⟨ka, hka, rfl, hnk⟩ := atI_some hna
    refine ⟨ka, hka, rfl, ?_⟩
    split at h
    · rename_i hneg
      injection h with h
      exact .inl ⟨by omega, h.symm⟩
    · rename_i hneg
      right
      refine ⟨by omega, ?_⟩
      split at h
      · exact absurd h (by simp)
      · rename_i oa hoa
        obtain ⟨kc, hkc, hkk, hok⟩ := atI_some hoa
        obtain rfl : ka = kc := by omega
        refine ⟨hkc, ?_⟩
        split at h
        · rename_i hc
          injection h with h
          exact .inl ⟨by omega, by omega, h.symm⟩
        · rename_i hc
          right
          refine ⟨by omega, ?_⟩
          split at h
          · rename_i hb
            injection h with h
            exact .inl ⟨hb, h.symm⟩
          · rename_i hb
            exact .inr ⟨by omega, h⟩
end Jq
namespace Go.Proofs.Ytjlehpgfhlkjlaa
open Go.RowKit Jq
set_option linter.unusedVariables false
theorem mkInts (n : Nat) (hn : n ≤ 512) : ∀ W : World, (Instr.makeSlice 38 (.int .i64 (n : Int)) (.int .i64 (n : Int))).run Try.prog W = .ok (.slice (some ⟨W.heap.size, 0, none⟩) n n) (W.alloc (.cells (madeCells #[.int .i64 0] n) 3)) :=
  fun W => run_make_row' 38 3 (.int .i64 0) 8 Try.underlying38 infoI rfl .i64 .i64 n (by omega) (by omega) W
theorem ixInts (g n : Nat) (l : List Int) (hl : l.length = n) {k : Nat} (hk : k < n) : ∀ W : World, (Instr.indexAt 38 (.slice (some ⟨g, 0, none⟩) n n) (.int .i64 (k : Int))).run Try.prog W = .ok (.pointer (some ⟨g, k, none⟩)) W := fun W => by
  have h := Kd.run_index (P := Try.prog) 38 3 Try.underlying38 (⟨some ⟨g, 0, none⟩, n, l⟩ : Sl Int) g 0 1 rfl (by kernel_rfl) (k : Int) k rfl (by show k < l.length; omega) W
  simpa [Sl.val, hl] using h
set_option maxRecDepth 100000 in
set_option maxHeartbeats 2000000 in
/-- 'graph.Idom'. -/
theorem grIdom (s : Sl (Sl Int)) (F : Nat) (idom : List Int) (w : World) (hs : kI.sl.sl.rd w s) (h512 : s.l.length ≤ 512) (h8 : ∀ x, x ∈ s.l → x.l.length * 8 ≤ 140737488355328) (hE : (edgesOf 0 ((s.l.map Sl.l).map (keptOf s.l.length))).length * 8 ≤ 140737488355320)
    (hin : ∀ b, b ∈ orderOf ((s.l.map Sl.l).map (keptOf s.l.length)) → 0 ≤ b ∧ b < (s.l.length : Int)) (hpo : 1 ≤ (orderOf ((s.l.map Sl.l).map (keptOf s.l.length))).length) (h : idomOf ((s.l.map Sl.l).map (keptOf s.l.length)) F = some idom) :
    Calls Try.prog 145 #[s.val] w (RetSl kI 3 w idom) := by
  obtain ⟨rows, hrows⟩ : ∃ rows, rows = (s.l.map Sl.l).map (keptOf s.l.length) := ⟨_, rfl⟩
  have hrl : rows.length = s.l.length := by rw [hrows]; simp
  have hord := Lib.hid (grOrder s w hs h512 h8)
  have hprd := Lib.hid (fun W (hW : Below w.heap.size w W) => grPreds s W (kI.sl.sl.below hs hW) h512 h8 hE)
  rw [← hrows] at hord hprd hin hpo h
  have hbd := Kd.bound hs
  have hmk := mkInts s.l.length h512
  have hin' := Lib.hid hin
  have hrl' := Lib.hid hrl
  have h' := Lib.hid h
  clear hs h8 hE hin h hrows hrl
  go_enter Try.func145, Try.ntmps145
  go_wp2_with fail
  refine hord.out.mono ?_
  rintro e w1 ⟨o, rfl, hol, hoo, hob⟩
  have hol1 : 1 ≤ o.l.length := by rw [hol]; exact hpo
  have hol' := Lib.hid hol
  have hoo' := Lib.hid hoo
  have hob' := Lib.hid hob
  have hbo := Kd.bound (d := kI) hoo.rd
  have hco := Kd.cap_ (d := kI) hoo.rd
  clear hol hoo hob hord hpo
  go_wp2_with fail
  clear hmk
  have hI0 : IM 3 s.l.length w1.heap.size w w1 (List.replicate s.l.length 0) (List.replicate s.l.length 0) ((w1.alloc (.cells (madeCells #[.int .i64 0] s.l.length) 3)).alloc (.cells (madeCells #[.int .i64 0] s.l.length) 3)) := by
    refine ⟨(own_made (.int .i64) rfl (fun _ => rfl) 0 (fun _ => trivial) rfl 3 w.heap.size w1 s.l.length hob'.out.size (by omega)).below (bal (Below.refl _ _) _), ?_, by simp, by simp, fun k hk _ _ => ?_, by simp; omega, bthen hob'.out (bal (bal (Below.refl _ _) _) _)⟩
    · have h := own_made (d := kI) (.int .i64) rfl (fun _ => rfl) 0 (fun _ => trivial) rfl 3 w.heap.size (w1.alloc (.cells (madeCells #[.int .i64 0] s.l.length) 3)) s.l.length (by have := hob'.out.size; simp; omega) (by omega)
      simpa using h
    · rw [Below.heap_alloc _ _ _ (by simp; omega), Below.heap_alloc _ _ _ hk]
  have hI0' := Lib.hid hI0
  clear hI0
  go_loopg [26] (s.l.length) (fun g q wr => ∃ (j : Nat) (nl ol : List Int), q = .int .i64 j ∧ j ≤ s.l.length ∧ g = s.l.length - j ∧ IM 3 s.l.length w1.heap.size w w1 nl ol wr ∧ nl.take j = List.replicate j (-1) ∧ ol.take j = List.replicate j (-1))
  case atStart => exact ⟨0, _, _, rfl, Nat.zero_le _, rfl, hI0'.out, by simp, by simp⟩
  case round =>
    obtain ⟨j, nl, ol, rfl, hj, hg, hI, hn, ho⟩ := hrel
    have hg' := Lib.hid hg
    have hI' := Lib.hid hI
    have hn' := Lib.hid hn
    have ho' := Lib.hid ho
    clear hg hI hn ho
    by_cases hlt : j < s.l.length
    · obtain ⟨c1, f1, s1⟩ := hI'.out.num_at hlt
      obtain ⟨c2, f2, s2⟩ := (s1 (-1)).out_at hlt
      have s2' := Lib.hid (s2 (-1))
      have i1 := ixInts w1.heap.size s.l.length nl hI'.out.nlen hlt
      have i2 := ixInts (w1.heap.size + 1) s.l.length ol hI'.out.olen hlt
      go_wp2_with fail
      go_roundg (s.l.length - (j + 1))
      case measure => have := hg'.out; omega
      case rel => exact ⟨j + 1, _, _, by go_num, by omega, rfl, s2'.out, by rw [List.replicate_succ']; exact take_set_succ _ _ _ _ (by rw [hI'.out.nlen]; exact hlt) hn'.out, by rw [List.replicate_succ']; exact take_set_succ _ _ _ _ (by rw [hI'.out.olen]; exact hlt) ho'.out⟩
    · have hjl : j = s.l.length := by omega
      subst hjl
      have hnl : nl = List.replicate s.l.length (-1) := by rw [← hn'.out, List.take_of_length_le (by rw [hI'.out.nlen]; exact Nat.le_refl _)]
      have hol2 : ol = List.replicate s.l.length (-1) := by rw [← ho'.out, List.take_of_length_le (by rw [hI'.out.olen]; exact Nat.le_refl _)]
      have hol2' := Lib.hid hol2
      have hnum0 := Lib.hid (show numFrom 0 (o.l.drop 0) nl = numOf rows.length (orderOf rows) by rw [hnl, List.drop_zero, hol'.out, hrl'.out]; rfl)
      clear hnl hol2
      go_wp2_with fail
      go_loopg [38] (o.l.length) (fun g q wr => ∃ (j : Nat) (nl : List Int), q = .int .i64 j ∧ j ≤ o.l.length ∧ g = o.l.length - j ∧ IM 3 s.l.length w1.heap.size w w1 nl ol wr ∧ numFrom j (o.l.drop j) nl = numOf rows.length (orderOf rows))
      case atStart => exact ⟨0, nl, rfl, Nat.zero_le _, rfl, hI'.out, hnum0.out⟩
      case round =>
        obtain ⟨j, nl, rfl, hj, hg, hI, hn⟩ := hrel
        have hg2 := Lib.hid hg
        have hI2 := Lib.hid hI
        have hn2 := Lib.hid hn
        clear hg hI hn
        have hro : kI.sl.rd wr o := kI.sl.mv hoo'.out.rd fun q hq => hI2.out.keep q (kI.sl.lt hoo'.out.rd q hq) (by have := kI.sl.lt hoo'.out.rd q hq; omega) (by have := kI.sl.lt hoo'.out.rd q hq; omega)
        by_cases hlt : j < o.l.length
        · obtain ⟨b1, o1, h1, hb1, hc1⟩ := getI 38 3 Try.underlying38 (by kernel_rfl) hro j hlt rfl
          obtain ⟨hb0, hbn⟩ := hin'.out o.l[j] (by rw [← hol'.out]; exact List.getElem_mem hlt)
          obtain ⟨kb, hkb⟩ : ∃ kb : Nat, o.l[j] = (kb : Int) := ⟨o.l[j].toNat, by omega⟩
          have hkn : kb < s.l.length := by omega
          have hst := numFrom_at o.l hlt nl
          rw [hkb, Int.toNat_natCast] at hst
          have hst' := Lib.hid hst
          rw [hkb] at hc1
          obtain ⟨c1, f1, s1⟩ := hI2.out.num_at hkn
          have s1' := Lib.hid (s1 (j : Int))
          have i1 := ixInts w1.heap.size s.l.length nl hI2.out.nlen hkn
          clear hst hb0 hbn hkb hro
          go_wp2_with fail
          go_roundg (o.l.length - (j + 1))
          case measure => have := hg2.out; omega
          case rel => exact ⟨j + 1, _, by go_num, by omega, rfl, s1'.out, by rw [← hst'.out]; exact hn2.out⟩
        · have hjl : j = o.l.length := by omega
          subst hjl
          have hnn : nl = numOf rows.length (orderOf rows) := by
            have h := hn2.out
            rw [List.drop_of_length_le (Nat.le_refl _), numFrom] at h
            exact h
          have hnn' := Lib.hid hnn
          clear hnn
          go_wp2_with fail
          refine (hprd.out wr hI2.out.below).mono ?_
          rintro e w4 ⟨p, rfl, hpl, hpo, hpb⟩
          have hgn : w1.heap.size + 1 < wr.heap.size := by
            obtain ⟨_, cs, hc⟩ := own_blk hI2.out.out (g := w1.heap.size + 1) rfl
            exact lt_of_block hc
          have hoW := Lib.hid (show ∀ W ol, IM 3 s.l.length w1.heap.size w w4 nl ol W → kI.sl.rd W o from fun W ol hW => by
            have h1 := kI.sl.below hro hpb
            have h2 := kI.sl.lt hoo'.out.rd
            exact kI.sl.mv h1 fun q hq => hW.keep q (kI.sl.lt h1 q hq) (by have := h2 q hq; omega) (by have := h2 q hq; omega))
          have hpW := Lib.hid (show ∀ W ol, IM 3 s.l.length w1.heap.size w w4 nl ol W → kI.sl.sl.rd W p from fun W ol hW =>
            kI.sl.sl.mv hpo.outer.rd fun q hq => hW.keep q (kI.sl.sl.lt hpo.outer.rd q hq) (by have := (own2_cells hpo hq).1; omega) (by have := (own2_cells hpo hq).1; omega))
          have hI4 := Lib.hid (hI2.out.go hpb).base
          have hpl' := Lib.hid hpl
          have hpn : p.l.length = s.l.length := by
            have h := congrArg List.length hpl
            rw [List.length_map, prsOf_len] at h
            rw [h]; exact hrl'.out
          have hid := Lib.hid (show idomF nl (prsOf rows) F o.tl.l F ol = some idom by
            have h := h'.out
            unfold idomOf at h
            rw [hnn'.out, hol2'.out, ← hrl'.out]
            show idomF _ _ _ o.l.tail _ _ = _
            rw [hol'.out, ← List.drop_one]
            exact h)
          clear hpl hpo hpb hro
          have htl : ∀ W : World, (Instr.sliceAt 38 o.val (some (.int .i64 1)) none none).run Try.prog W = .ok o.tl.val W := run_tail 38 3 Try.underlying38 (by kernel_rfl) o hol1 hco
          have hbt : o.tl.l.length ≤ 140737488355328 := by
            show o.l.tail.length ≤ _
            rw [List.length_tail]
            omega
          have hmn : min (1 : Int) (o.l.length : Int) = 1 := by omega
          go_wp2_with fail
          go_loopg [10] (F) (fun g q wr => ∃ (c : Bool) (k : Nat) (ol : List Int), q = .bool c ∧ IM 3 s.l.length w1.heap.size w w4 nl ol wr ∧ g = k ∧ ((c = true ∧ idomF nl (prsOf rows) F o.tl.l k ol = some idom) ∨ (c = false ∧ ol = idom)))
          case atStart => exact ⟨true, F, ol, rfl, hI4.out, rfl, .inl ⟨rfl, hid.out⟩⟩
          case round =>
            obtain ⟨c, k, ol, rfl, hI, hg, hor⟩ := hrel
            have hgk := Lib.hid hg
            have hI5 := Lib.hid hI
            clear hg hI
            rcases hor with ⟨rfl, hF⟩ | ⟨rfl, rfl⟩
            · cases k with
              | zero => exact absurd hF (by simp [idomF])
              | succ k =>
                obtain ⟨oF, cF, hpass, hnext⟩ : ∃ oF cF, passOf nl (prsOf rows) F o.tl.l (ol, false) = some (oF, cF) ∧ ((cF = true ∧ idomF nl (prsOf rows) F o.tl.l k oF = some idom) ∨ (cF = false ∧ oF = idom)) := by
                  rw [idomF] at hF
                  split at hF
                  · exact absurd hF (by simp)
                  · rename_i oF hp; exact ⟨oF, true, hp, .inl ⟨rfl, hF⟩⟩
                  · rename_i oF hp; exact ⟨oF, false, hp, .inr ⟨rfl, by injection hF⟩⟩
                have hpass' := Lib.hid hpass
                have hnext' := Lib.hid hnext
                clear hF hpass hnext
                go_wp2_with fail
                go_loopg [10, 57] (o.tl.l.length) (fun g q qi wr => ∃ (c : Bool) (j : Nat) (ol : List Int), q = .bool c ∧ qi = .int .i64 j ∧ j ≤ o.tl.l.length ∧ g = o.tl.l.length - j ∧ IM 3 s.l.length w1.heap.size w w4 nl ol wr ∧ passOf nl (prsOf rows) F (o.tl.l.drop j) (ol, c) = some (oF, cF))
                case atStart => exact ⟨false, 0, ol, rfl, rfl, Nat.zero_le _, rfl, hI5.out, hpass'.out⟩
                case round =>
                  obtain ⟨c, j, ol, rfl, rfl, hj, hg, hI, hps⟩ := hrel
                  have hg6 := Lib.hid hg
                  have hI6 := Lib.hid hI
                  have hps6 := Lib.hid hps
                  clear hg hI hps
                  by_cases hlt : j < o.tl.l.length
                  · obtain ⟨b1, o1, h1, hb1, hc1⟩ := getI 38 3 Try.underlying38 (by kernel_rfl) (tl_rdI (hoW.out wr ol hI6.out) hol1) j hlt rfl
                    obtain ⟨hb0, hbn⟩ := hin'.out o.tl.l[j] (by rw [← hol'.out]; exact List.mem_of_mem_tail (List.getElem_mem hlt))
                    obtain ⟨best, hbs, hrest⟩ := passOf_at hlt hps6.out
                    obtain ⟨kb, hkb⟩ : ∃ kb : Nat, o.tl.l[j] = (kb : Int) := ⟨o.tl.l[j].toNat, by omega⟩
                    have hkn : kb < s.l.length := by omega
                    have hkp : kb < p.l.length := by omega
                    rw [hkb, Int.toNat_natCast] at hbs hrest
                    rw [show (prsOf rows).getD kb [] = p.l[kb].l by rw [← hpl'.out]; exact getD_l p.l kb hkp] at hbs
                    rw [hkb] at hc1
                    obtain ⟨b2, o2, h2, hb2, hc2, hr2⟩ := getS 146 38 Try.underlying146 (by kernel_rfl) (hpW.out wr ol hI6.out) kb hkp rfl
                    have hbs' := Lib.hid hbs
                    have hrest' := Lib.hid hrest
                    have hbr := Kd.bound (d := kI) hr2
                    clear hbs hrest hb0 hbn hkb hr2
                    go_wp2_with fail
                    clear h1 hc1 h2 hc2
                    go_loopg [13, 66] (p.l[kb].l.length) (fun g q qi wr => ∃ (i : Nat) (bs : Int), q = .int .i64 bs ∧ qi = .int .i64 i ∧ i ≤ p.l[kb].l.length ∧ g = p.l[kb].l.length - i ∧ IM 3 s.l.length w1.heap.size w w4 nl ol wr ∧ bestOf ol nl F (p.l[kb].l.drop i) bs = some best)
                    case atStart => exact ⟨0, -1, rfl, rfl, Nat.zero_le _, rfl, hI6.out, hbs'.out⟩
                    case round =>
                      obtain ⟨i, bs, rfl, rfl, hi, hg, hI, hbo⟩ := hrel
                      have hg8 := Lib.hid hg
                      have hI8 := Lib.hid hI
                      have hbo8 := Lib.hid hbo
                      clear hg hI hbo
                      by_cases hil : i < p.l[kb].l.length
                      · obtain ⟨b3, o3, h3, hb3, hc3⟩ := getI 38 3 Try.underlying38 (by kernel_rfl) ((hpW.out wr ol hI8.out).2.2.2 _ (List.getElem_mem hkp)) i hil rfl
                        obtain ⟨b', hst, hrest⟩ := bestOf_at hil hbo8.out
                        have hrest8 := Lib.hid hrest
                        obtain ⟨ka, hka, hae, hor⟩ := bestStep_cases hst
                        have hkan : ka < s.l.length := by rw [← hI8.out.nlen]; exact hka
                        rw [hae] at hc3 hor
                        obtain ⟨c4, f4, _⟩ := hI8.out.num_at hkan
                        obtain ⟨c5, f5, _⟩ := hI8.out.out_at hkan
                        have i4 := ixInts w1.heap.size s.l.length nl hI8.out.nlen hkan
                        have i5 := ixInts (w1.heap.size + 1) s.l.length ol hI8.out.olen hkan
                        clear hst hrest hae f4 f5
                        rcases hor with ⟨hneg, rfl⟩ | ⟨hpos, h2, ⟨hk0, hog, rfl⟩ | ⟨hk0, ⟨hbn, rfl⟩ | ⟨hbp, hcom⟩⟩⟩
                        · have hd1 : decide (nl[ka] < 0) = true := decide_eq_true hneg
                          go_wp2_with fail
                          go_roundg (p.l[kb].l.length - (i + 1))
                          case measure => have := hg8.out; omega
                          case rel => exact ⟨i + 1, _, rfl, by go_num, by omega, rfl, hI8.out, hrest8.out⟩
                        · have hne : ((ka : Int) != 0) = true := by simp; omega
                          have hd1 : decide (nl[ka] < 0) = false := decide_eq_false (by omega)
                          have hn1 : ¬ (nl[ka] < 0) := by omega
                          have hd2 : decide (ol[ka] < 0) = true := decide_eq_true hog
                          go_wp2_with fail
                          go_roundg (p.l[kb].l.length - (i + 1))
                          case measure => have := hg8.out; omega
                          case rel => exact ⟨i + 1, _, rfl, by go_num, by omega, rfl, hI8.out, hrest8.out⟩
                        · have hd1 : decide (nl[ka] < 0) = false := decide_eq_false (by omega)
                          have hn1 : ¬ (nl[ka] < 0) := by omega
                          rcases hk0 with rfl | ⟨hk0, hop⟩
                          · go_wp2_with fail
                            go_roundg (p.l[kb].l.length - (i + 1))
                            case measure => have := hg8.out; omega
                            case rel => exact ⟨i + 1, _, rfl, by go_num, by omega, rfl, hI8.out, hrest8.out⟩
                          · have hne : ((ka : Int) != 0) = true := by simp; omega
                            have hd2 : decide (ol[ka] < 0) = false := decide_eq_false (by omega)
                            have hn2' : ¬ (ol[ka] < 0) := by omega
                            go_wp2_with fail
                            go_roundg (p.l[kb].l.length - (i + 1))
                            case measure => have := hg8.out; omega
                            case rel => exact ⟨i + 1, _, rfl, by go_num, by omega, rfl, hI8.out, hrest8.out⟩
                        · have hcm := Lib.hid (show Calls Try.prog 156 #[.slice (some ⟨w1.heap.size + 1, 0, none⟩) s.l.length s.l.length, .slice (some ⟨w1.heap.size, 0, none⟩) s.l.length s.l.length, .int .i64 bs, .int .i64 (ka : Int)] wr fun e w' => e = .returned (.int .i64 b') ∧ ∃ m, w' = wr.drewN m from by
                            have h := grCommon ⟨some ⟨w1.heap.size + 1, 0, none⟩, s.l.length, ol⟩ ⟨some ⟨w1.heap.size, 0, none⟩, s.l.length, nl⟩ bs ka b' F wr hI8.out.out.rd hI8.out.num.rd hcom
                            simpa [Sl.val, hI8.out.nlen, hI8.out.olen] using h)
                          have hd1 : decide (nl[ka] < 0) = false := decide_eq_false (by omega)
                          have hn1 : ¬ (nl[ka] < 0) := by omega
                          rcases hk0 with rfl | ⟨hk0, hop⟩
                          · clear hcom
                            go_wp2_with fail
                            refine hcm.out.mono ?_
                            rintro e w9 ⟨rfl, m, rfl⟩
                            have hI9 := Lib.hid (hI8.out.go (bdn wr m))
                            go_wp2_with fail
                            go_roundg (p.l[kb].l.length - (i + 1))
                            case measure => have := hg8.out; omega
                            case rel => exact ⟨i + 1, _, rfl, by go_num, by omega, rfl, hI9.out, hrest8.out⟩
                          · have hne : ((ka : Int) != 0) = true := by simp; omega
                            have hd2 : decide (ol[ka] < 0) = false := decide_eq_false (by omega)
                            have hn2' : ¬ (ol[ka] < 0) := by omega
                            clear hcom
                            go_wp2_with fail
                            refine hcm.out.mono ?_
                            rintro e w9 ⟨rfl, m, rfl⟩
                            have hI9 := Lib.hid (hI8.out.go (bdn wr m))
                            go_wp2_with fail
                            go_roundg (p.l[kb].l.length - (i + 1))
                            case measure => have := hg8.out; omega
                            case rel => exact ⟨i + 1, _, rfl, by go_num, by omega, rfl, hI9.out, hrest8.out⟩
                      · have hil2 : i = p.l[kb].l.length := by omega
                        subst hil2
                        obtain rfl : bs = best := by
                          have h := hbo8.out
                          rw [List.drop_of_length_le (Nat.le_refl _), bestOf] at h
                          injection h
                        obtain ⟨c5, f5, s5⟩ := hI8.out.out_at hkn
                        have i5 := ixInts (w1.heap.size + 1) s.l.length ol hI8.out.olen hkn
                        have s5' := Lib.hid (s5 bs)
                        clear s5
                        have hgd : ol.getD kb 0 = ol[kb]'(by rw [hI8.out.olen]; exact hkn) := by
                          rw [List.getD_eq_getElem?_getD, List.getElem?_eq_getElem (by rw [hI8.out.olen]; exact hkn), Option.getD_some]
                        have hnx := hrest'.out
                        rw [hgd] at hnx
                        by_cases heq : ol[kb]'(by rw [hI8.out.olen]; exact hkn) = bs
                        · rw [if_neg (by simp [heq])] at hnx
                          have hnx' := Lib.hid hnx
                          have hne : ((ol[kb]'(by rw [hI8.out.olen]; exact hkn)) != bs) = false := by simp [heq]
                          clear hnx hgd heq
                          go_wp2_with fail
                          go_roundg (o.tl.l.length - (j + 1))
                          case measure => have := hg6.out; omega
                          case rel => exact ⟨_, j + 1, _, rfl, by go_num, by omega, rfl, hI8.out, hnx'.out⟩
                        · rw [if_pos heq] at hnx
                          have hnx' := Lib.hid hnx
                          have hne : ((ol[kb]'(by rw [hI8.out.olen]; exact hkn)) != bs) = true := by simpa using heq
                          clear hnx hgd heq
                          go_wp2_with fail
                          go_roundg (o.tl.l.length - (j + 1))
                          case measure => have := hg6.out; omega
                          case rel => exact ⟨_, j + 1, _, rfl, by go_num, by omega, rfl, s5'.out, hnx'.out⟩
                  · have hjl : j = o.tl.l.length := by omega
                    subst hjl
                    have he := hps6.out
                    rw [List.drop_of_length_le (Nat.le_refl _), passOf] at he
                    simp only [Option.some.injEq, Prod.mk.injEq] at he
                    obtain ⟨rfl, rfl⟩ := he
                    go_wp2_with fail
                    go_roundg k
                    case measure => have := hgk.out; omega
                    case rel => exact ⟨_, k, _, rfl, hI6.out, rfl, hnext'.out⟩
            · go_wp2_with fail
              go_ret
              exact ⟨⟨some ⟨w1.heap.size + 1, 0, none⟩, s.l.length, ol⟩, by simp [Sl.val, hI5.out.olen], rfl, hI5.out.out, hI5.out.below⟩
end Go.Proofs.Ytjlehpgfhlkjlaa
