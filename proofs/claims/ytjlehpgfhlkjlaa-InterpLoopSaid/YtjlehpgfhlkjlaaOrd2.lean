/-
  graph.Order.
-/
import Derived.Test.YtjlehpgfhlkjlaaOrd
set_option linter.all false
namespace Jq
open Go Go.RowKit
theorem mem_compactUpTo (d : Array Int) : ∀ (m : Nat), m ≤ d.size → ∀ x, x ∈ Lib.compactUpTo d m → x ∈ d.toList
  | 0, _, x, h => by simp [Lib.compactUpTo] at h
  | m + 1, hm, x, h => by
    rw [Lib.compactUpTo_succ, List.mem_append] at h
    rcases h with h | h
    · exact mem_compactUpTo d m (by omega) x h
    · split at h
      · simp at h
        subst h
        rw [getElem!_pos d m (by omega)]
        simp
      · simp at h
theorem mem_kept {n : Int} {l : List Int} {x : Int} (h : x ∈ keptOf n l) : x ∈ l ∧ 0 ≤ x ∧ x < n := by
  have h1 := mem_compactUpTo _ _ (by simp) x h
  simp only [List.mem_mergeSort, List.mem_filter, isB, Bool.and_eq_true, decide_eq_true_eq] at h1
  exact ⟨h1.1, h1.2.1, h1.2.2⟩
end Jq
namespace Go.Proofs.Ytjlehpgfhlkjlaa
open Go.RowKit Jq
set_option linter.unusedVariables false
set_option maxRecDepth 100000 in
set_option maxHeartbeats 1000000 in
/-- 'graph.Order'. -/
theorem grOrder (s : Sl (Sl Int)) (w : World) (hs : kI.sl.sl.rd w s) (h512 : s.l.length ≤ 512) (h8 : ∀ x, x ∈ s.l → x.l.length * 8 ≤ 140737488355328) : Calls Try.prog 143 #[s.val] w (RetSl kI 3 w (orderOf ((s.l.map Sl.l).map (keptOf s.l.length)))) := by
  have hs' := Lib.hid hs
  have h8' := Lib.hid h8
  have hmk := mkReached s.l.length h512
  clear hs h8
  by_cases h0 : s.l.length = 0
  · have e : orderOf ((s.l.map Sl.l).map (keptOf s.l.length)) = [] := by simp [orderOf, h0]
    rw [e]
    clear e
    go_enter Try.func143, Try.ntmps143
    go_wp2_with fail
    go_ret
    exact nil_ret _ _ (Below.refl _ _)
  · have h0' := Lib.hid h0
    have d0 : ((s.l.length : Int) == 0) = false := by simpa using h0
    have hpos : 0 < s.l.length := by omega
    clear h0
    go_enter Try.func143, Try.ntmps143
    go_wp2_with fail
    refine (grClean s w hs'.out h512 h8'.out).mono ?_
    rintro e w1 ⟨rows, rfl, hrl, hro, hrb⟩
    have hrl' := Lib.hid hrl
    have hro' := Lib.hid hro
    have hrb' := Lib.hid hrb
    clear hrl hro hrb
    go_wp2_with fail
    clear hmk d0
    obtain ⟨W, hW⟩ : ∃ W, W = ((((w1.alloc (.cells #[rows.val] 146)).alloc (.cells (madeCells #[.bool false] s.l.length) 4)).alloc (.cells #[.slice (some ⟨w1.heap.size + 1, 0, none⟩) s.l.length s.l.length] 128)).alloc (.cells #[.slice none 0 0] 38)).alloc (.cells #[overV w1.heap.size] 189) := ⟨_, rfl⟩
    have hOS : OS w1.heap.size s.l.length w1 rows W (List.replicate s.l.length false, []) nilSl := by
      refine ⟨?_, ?_, ?_, ?_, ?_, by simp, Own.nil _ _ _ _, rfl, ?_, rfl⟩
      · subst hW; repeat (first | exact ask_last _ _ _ (by simp) | refine (Below.heap_alloc _ _ _ (by simp <;> omega)).trans ?_)
      · subst hW; repeat (first | exact ask_last _ _ _ (by simp) | refine (Below.heap_alloc _ _ _ (by simp <;> omega)).trans ?_)
      · subst hW; repeat (first | exact ask_last _ _ _ (by simp) | refine (Below.heap_alloc _ _ _ (by simp <;> omega)).trans ?_)
      · subst hW; repeat (first | exact ask_last _ _ _ (by simp) | refine (Below.heap_alloc _ _ _ (by simp <;> omega)).trans ?_)
      · have h := own_made (d := kB) .bool rfl (fun _ => rfl) false (fun _ => trivial) rfl 4 (w1.heap.size + 1) (w1.alloc (.cells #[rows.val] 146)) s.l.length (by simp) (by omega)
        rw [show (w1.alloc (.cells #[rows.val] 146)).heap.size = w1.heap.size + 1 by simp] at h
        subst hW
        exact ((h.below (bal (Below.refl _ _) _)).below (bal (Below.refl _ _) _)).below (bal (Below.refl _ _) _)
      · subst hW; repeat (first | exact Below.refl _ _ | refine bal ?_ _)
    have hin : ∀ x, x ∈ rows.l → ∀ b, b ∈ x.l → 0 ≤ b ∧ b < (s.l.length : Int) := by
      intro x hx b hb
      have h1 : x.l ∈ rows.l.map Sl.l := List.mem_map_of_mem hx
      rw [hrl'.out] at h1
      obtain ⟨y, _, hy⟩ := List.mem_map.1 h1
      rw [← hy] at hb
      exact (mem_kept hb).2
    have hlen : rows.l.length = s.l.length := by
      have h := congrArg List.length hrl'.out
      simpa using h
    have hcall := grOver w1.heap.size s.l.length w1 rows hro'.out.outer.rd hlen h512 hin s.l.length 0 W (List.replicate s.l.length false, []) nilSl hOS hpos (by simp [List.getD_eq_getElem?_getD, hpos]) (by simp [cnt]) (by simp [cnt])
    rw [show ((0 : Nat) : Int) = 0 from rfl, hrl'.out] at hcall
    have hcall' := Lib.hid hcall
    clear hcall hOS hin
    have hW' := Lib.hid hW
    rw [show ((((w1.alloc (.cells #[rows.val] 146)).alloc (.cells (madeCells #[.bool false] s.l.length) 4)).alloc (.cells #[.slice (some ⟨w1.heap.size + 1, 0, none⟩) s.l.length s.l.length] 128)).alloc (.cells #[.slice none 0 0] 38)).alloc (.cells #[overV w1.heap.size] 189) = W from hW.symm]
    clear hW
    refine hcall'.out.mono ?_
    rintro e w2 ⟨rfl, o, hO⟩
    have hO' := Lib.hid hO
    have i1 : w2.cell? ⟨w1.heap.size + 3, 0, none⟩ = some o.val := by simp [World.cell?, hO.bO]
    clear hO
    go_wp2_with fail
    refine (own_reverse o (w1.heap.size + 5) w2 hO'.out.out).mono ?_
    rintro e w3 ⟨rfl, o3, hv3, hl3, ho3, hg3⟩
    have q3 := (hg3.block (w1.heap.size + 3) (lt_of_block hO'.out.bO) (fun e => by have := hO'.out.out.ge _ e; omega)).trans hO'.out.bO
    have i2 : w3.cell? ⟨w1.heap.size + 3, 0, none⟩ = some o.val := by simp [World.cell?, q3]
    have hv3' := Lib.hid hv3
    have hl3' := Lib.hid hl3
    have ho3' := Lib.hid ho3
    have hB3 := Lib.hid (hO'.out.below.grown hg3 hO'.out.below.size (fun q hq => by have := hO'.out.out.ge q hq.symm; omega))
    clear hv3 hl3 ho3 hg3 q3 i1
    go_wp2_with fail
    go_ret
    have hsz := hrb'.out.size
    refine ⟨o3, by rw [hv3'.out]; rfl, ?_, ho3'.out.lower (by omega), bthen hrb'.out hB3.out⟩
    rw [hl3'.out, hO'.out.outl, orderOf, if_neg (by simpa using h0'.out)]
    simp
end Go.Proofs.Ytjlehpgfhlkjlaa
