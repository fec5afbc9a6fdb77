/-
  Literals of rows, laid one behind another; the function of InterpLoop in memory.
-/
import Derived.Test.YtjlehpgfhlkjlaaPL4L
set_option linter.all false
namespace Jq
open Go Go.RowKit
/-- A row laid as a literal. -/
def lay {α : Type} (d : Kd α) (T : TypeId) (W : World) (xs : List α) : World := W.alloc (.cells (xs.flatMap d.cs).toArray T)
abbrev atB {α : Type} (g : Nat) (xs : List α) : Sl α := ⟨some ⟨g, 0, none⟩, xs.length, xs⟩
theorem lay_below {α : Type} (d : Kd α) (T : TypeId) (W : World) (xs : List α) : Below W.heap.size W (lay d T W xs) := bal (Below.refl _ _) _
theorem lay_size {α : Type} (d : Kd α) (T : TypeId) (W : World) (xs : List α) : (lay d T W xs).heap.size = W.heap.size + 1 := by simp [lay]
theorem lay_at {α : Type} (d : Kd α) (T : TypeId) (W : World) (xs : List α) (g : Nat) (hg : g = W.heap.size) (hn : xs.length ≤ 140737488355328) (hx : ∀ x, x ∈ xs → d.rd W x) : d.sl.rd (lay d T W xs) (atB g xs) := by
  subst hg
  refine ⟨Nat.le_refl _, hn, fun _ => ⟨W.heap.size, 0, rfl, by simp [lay], fun i hi j hj => ?_⟩, fun y hy => d.below (hx y hy) (bal (Below.refl _ _) _)⟩
  have h : (lay d T W xs).heap[W.heap.size]? = some (.cells (xs.flatMap d.cs).toArray T (0, 0)) := heap_alloc_new W _
  show (lay d T W xs).cell? ⟨W.heap.size, 0 + (i * d.sz + j), none⟩ = (d.cs xs[i])[j]?
  rw [Nat.zero_add]
  simp only [World.cell?, h]
  have := flat_at d.cs d.sz d.len xs i hi j hj
  simpa using this
end Jq
namespace Go.Proofs.Ytjlehpgfhlkjlaa
open Go.RowKit Jq
set_option linter.unusedVariables false
/-- The rows of InterpLoop's function. -/
def loopW (w : World) : World :=
  lay kI 3 (lay kIns 78 (lay kI 3 (lay kI 3 (lay kI 3 (lay kI 3 (lay kIns 78 (lay kI 3 (lay kPhi 93 (lay kIn 90 (lay kIn 90 (lay kI 3 (lay kIns 78 w
    [⟨1, 2, 0, nilSl, 0⟩]) [1]) [⟨0, 2⟩, ⟨2, 7⟩]) [⟨0, 1⟩, ⟨2, 8⟩]) [⟨3, atB (w.heap.size + 2) [⟨0, 2⟩, ⟨2, 7⟩]⟩, ⟨4, atB (w.heap.size + 3) [⟨0, 1⟩, ⟨2, 8⟩]⟩]) [3, 0]) [⟨12, 5, 0, atB (w.heap.size + 5) [3, 0], 0⟩]) [5]) [2, 3]) [3, 6]) [4, 3])
    [⟨1, 6, 0, nilSl, 1⟩, ⟨2, 7, 0, atB (w.heap.size + 9) [3, 6], 0⟩, ⟨2, 8, 0, atB (w.heap.size + 10) [4, 3], 0⟩]) [1]
abbrev loopB0 (g : Nat) : Jq.Block Sl := ⟨nilSl, atB g [⟨1, 2, 0, nilSl, 0⟩], ⟨1, nilSl, atB (g + 1) [1], 0⟩⟩
abbrev loopB1 (g : Nat) : Jq.Block Sl := ⟨atB (g + 4) [⟨3, atB (g + 2) [⟨0, 2⟩, ⟨2, 7⟩]⟩, ⟨4, atB (g + 3) [⟨0, 1⟩, ⟨2, 8⟩]⟩], atB (g + 6) [⟨12, 5, 0, atB (g + 5) [3, 0], 0⟩], ⟨2, atB (g + 7) [5], atB (g + 8) [2, 3], 0⟩⟩
abbrev loopB2 (g : Nat) : Jq.Block Sl := ⟨nilSl, atB (g + 11) [⟨1, 6, 0, nilSl, 1⟩, ⟨2, 7, 0, atB (g + 9) [3, 6], 0⟩, ⟨2, 8, 0, atB (g + 10) [4, 3], 0⟩], ⟨1, nilSl, atB (g + 12) [1], 0⟩⟩
theorem kI_all {W : World} {l : List Int} : ∀ x, x ∈ l → kI.rd W x := fun _ _ => trivial
theorem kIn_all {W : World} {l : List In} : ∀ x, x ∈ l → kIn.rd W x := fun _ _ => trivial
theorem loopW_rd (w : World) : Below w.heap.size w (loopW w) ∧ (loopW w).heap.size = w.heap.size + 13 ∧ kBlock.rd (loopW w) (loopB0 w.heap.size) ∧ kBlock.rd (loopW w) (loopB1 w.heap.size) ∧ kBlock.rd (loopW w) (loopB2 w.heap.size) := by
  unfold loopW
  obtain ⟨g, hg⟩ : ∃ g, g = w.heap.size := ⟨_, rfl⟩
  rw [← hg]
  have a1 := lay_at kIns 78 w [⟨1, 2, 0, nilSl, 0⟩] g hg (by simp) (fun x hx => by rw [List.mem_singleton.1 hx]; exact Kd.nil_rd _ _)
  have b1 := lay_below kIns 78 w [⟨1, 2, 0, nilSl, 0⟩]
  have z1 := lay_size kIns 78 w [⟨1, 2, 0, nilSl, 0⟩]
  generalize lay kIns 78 w [⟨1, 2, 0, nilSl, 0⟩] = V1 at *
  have a2 := lay_at kI 3 V1 [1] (g + 1) (by omega) (by simp) kI_all
  have b2 := lay_below kI 3 V1 [1]
  have z2 := lay_size kI 3 V1 [1]
  generalize lay kI 3 V1 [1] = V2 at *
  have a3 := lay_at kIn 90 V2 [⟨0, 2⟩, ⟨2, 7⟩] (g + 2) (by omega) (by simp) kIn_all
  have b3 := lay_below kIn 90 V2 [⟨0, 2⟩, ⟨2, 7⟩]
  have z3 := lay_size kIn 90 V2 [⟨0, 2⟩, ⟨2, 7⟩]
  generalize lay kIn 90 V2 [⟨0, 2⟩, ⟨2, 7⟩] = V3 at *
  have a4 := lay_at kIn 90 V3 [⟨0, 1⟩, ⟨2, 8⟩] (g + 3) (by omega) (by simp) kIn_all
  have b4 := lay_below kIn 90 V3 [⟨0, 1⟩, ⟨2, 8⟩]
  have z4 := lay_size kIn 90 V3 [⟨0, 1⟩, ⟨2, 8⟩]
  generalize lay kIn 90 V3 [⟨0, 1⟩, ⟨2, 8⟩] = V4 at *
  have a5 := lay_at kPhi 93 V4 [⟨3, atB (g + 2) [⟨0, 2⟩, ⟨2, 7⟩]⟩, ⟨4, atB (g + 3) [⟨0, 1⟩, ⟨2, 8⟩]⟩] (g + 4) (by omega) (by simp) (fun x hx => by
    simp only [List.mem_cons, List.not_mem_nil, or_false] at hx
    rcases hx with rfl | rfl
    · exact kIn.sl.below a3 b4
    · exact a4)
  have b5 := lay_below kPhi 93 V4 [⟨3, atB (g + 2) [⟨0, 2⟩, ⟨2, 7⟩]⟩, ⟨4, atB (g + 3) [⟨0, 1⟩, ⟨2, 8⟩]⟩]
  have z5 := lay_size kPhi 93 V4 [⟨3, atB (g + 2) [⟨0, 2⟩, ⟨2, 7⟩]⟩, ⟨4, atB (g + 3) [⟨0, 1⟩, ⟨2, 8⟩]⟩]
  generalize lay kPhi 93 V4 [⟨3, atB (g + 2) [⟨0, 2⟩, ⟨2, 7⟩]⟩, ⟨4, atB (g + 3) [⟨0, 1⟩, ⟨2, 8⟩]⟩] = V5 at *
  have a6 := lay_at kI 3 V5 [3, 0] (g + 5) (by omega) (by simp) kI_all
  have b6 := lay_below kI 3 V5 [3, 0]
  have z6 := lay_size kI 3 V5 [3, 0]
  generalize lay kI 3 V5 [3, 0] = V6 at *
  have a7 := lay_at kIns 78 V6 [⟨12, 5, 0, atB (g + 5) [3, 0], 0⟩] (g + 6) (by omega) (by simp) (fun x hx => by rw [List.mem_singleton.1 hx]; exact a6)
  have b7 := lay_below kIns 78 V6 [⟨12, 5, 0, atB (g + 5) [3, 0], 0⟩]
  have z7 := lay_size kIns 78 V6 [⟨12, 5, 0, atB (g + 5) [3, 0], 0⟩]
  generalize lay kIns 78 V6 [⟨12, 5, 0, atB (g + 5) [3, 0], 0⟩] = V7 at *
  have a8 := lay_at kI 3 V7 [5] (g + 7) (by omega) (by simp) kI_all
  have b8 := lay_below kI 3 V7 [5]
  have z8 := lay_size kI 3 V7 [5]
  generalize lay kI 3 V7 [5] = V8 at *
  have a9 := lay_at kI 3 V8 [2, 3] (g + 8) (by omega) (by simp) kI_all
  have b9 := lay_below kI 3 V8 [2, 3]
  have z9 := lay_size kI 3 V8 [2, 3]
  generalize lay kI 3 V8 [2, 3] = V9 at *
  have a10 := lay_at kI 3 V9 [3, 6] (g + 9) (by omega) (by simp) kI_all
  have b10 := lay_below kI 3 V9 [3, 6]
  have z10 := lay_size kI 3 V9 [3, 6]
  generalize lay kI 3 V9 [3, 6] = V10 at *
  have a11 := lay_at kI 3 V10 [4, 3] (g + 10) (by omega) (by simp) kI_all
  have b11 := lay_below kI 3 V10 [4, 3]
  have z11 := lay_size kI 3 V10 [4, 3]
  generalize lay kI 3 V10 [4, 3] = V11 at *
  have a12 := lay_at kIns 78 V11 [⟨1, 6, 0, nilSl, 1⟩, ⟨2, 7, 0, atB (g + 9) [3, 6], 0⟩, ⟨2, 8, 0, atB (g + 10) [4, 3], 0⟩] (g + 11) (by omega) (by simp) (fun x hx => by
    simp only [List.mem_cons, List.not_mem_nil, or_false] at hx
    rcases hx with rfl | rfl | rfl
    · exact Kd.nil_rd _ _
    · exact kI.sl.below a10 b11
    · exact a11)
  have b12 := lay_below kIns 78 V11 [⟨1, 6, 0, nilSl, 1⟩, ⟨2, 7, 0, atB (g + 9) [3, 6], 0⟩, ⟨2, 8, 0, atB (g + 10) [4, 3], 0⟩]
  have z12 := lay_size kIns 78 V11 [⟨1, 6, 0, nilSl, 1⟩, ⟨2, 7, 0, atB (g + 9) [3, 6], 0⟩, ⟨2, 8, 0, atB (g + 10) [4, 3], 0⟩]
  generalize lay kIns 78 V11 [⟨1, 6, 0, nilSl, 1⟩, ⟨2, 7, 0, atB (g + 9) [3, 6], 0⟩, ⟨2, 8, 0, atB (g + 10) [4, 3], 0⟩] = V12 at *
  have a13 := lay_at kI 3 V12 [1] (g + 12) (by omega) (by simp) kI_all
  have b13 := lay_below kI 3 V12 [1]
  have z13 := lay_size kI 3 V12 [1]
  generalize lay kI 3 V12 [1] = V13 at *
  have c11 := bthen b12 b13
  have c10 := bthen b11 c11
  have c9 := bthen b10 c10
  have c8 := bthen b9 c9
  have c7 := bthen b8 c8
  have c6 := bthen b7 c7
  have c5 := bthen b6 c6
  have c4 := bthen b5 c5
  have c3 := bthen b4 c4
  have c2 := bthen b3 c3
  have c1 := bthen b2 c2
  have c0 := bthen b1 c1
  refine ⟨hg ▸ c0, by omega, ⟨Kd.nil_rd _ _, kIns.sl.below a1 c1, Kd.nil_rd _ _, kI.sl.below a2 c2⟩, ⟨kPhi.sl.below a5 c5, kIns.sl.below a7 c7, kI.sl.below a8 c8, kI.sl.below a9 c9⟩, ⟨Kd.nil_rd _ _, kIns.sl.below a12 b13, Kd.nil_rd _ _, a13⟩⟩
end Go.Proofs.Ytjlehpgfhlkjlaa
